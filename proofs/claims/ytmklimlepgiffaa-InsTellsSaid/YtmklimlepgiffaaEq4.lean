/- The functions that the statement reaches, by equations: no statement of its own. -/
import Derived.Test.YtmklimlepgiffaaEq3
set_option linter.unusedVariables false
set_option linter.unusedSimpArgs false
namespace Go.Va
open Go.Proofs
set_option maxRecDepth 100000
theorem up_placketlaw11_up (A : Ar) (h1 : evl (envV A) (.call 23 [.agg [.s (.int .i64 1), .s (.string ⟨#[112]⟩), .s (.string ⟨#[]⟩)]] []) = some (.ret (.s (.bool true)) []))
    (h2 : evl (envV A) (.call 23 [.agg [.s (.int .i64 1), .s (.string ⟨#[98, 114]⟩), .s (.string ⟨#[]⟩)]] []) = some (.ret (.s (.bool false)) []))
    (h3 : evl (envV A) (.call 25 [.s (.int .i64 4)] []) = some (.ret (.s (.bool true)) []))
    (h4 : evl (envV A) (.call 26 [.s (.int .i64 6)] []) = some (.ret (.s (.bool true)) []))
    (h5 : evl (envV A) (.call 25 [.s (.int .i64 2)] []) = some (.ret (.s (.bool false)) [])) : evl (envV A) (.call 22 [] []) = some (.ret (.s (.bool true)) []) := by
  rw [evl_fn (envV A) 22 _ [] (fn := Try.f22) (c := bd22) (lv := lvF22) rfl rfl rfl rfl rfl rfl]
  generalize evl (envV A) = E at h1 h2 h3 h4 h5 ⊢
  generalize lpOf (envV A) 22 bd22 = LP
  obtain ⟨aadd, asub, amul, arem, aquo, awr, ashr, aeq, alt, ale, aseq, aslt, acat, acut, asiz, aat, anle, aneq, afit⟩ := A
  cbv
  rw [h1]
  cbv
  rw [h2]
  cbv
  rw [h3]
  cbv
  rw [h4]
  cbv
  rw [h5]
  cbv
def tellA (A : Ar) (m23 m24 q25 q26 : Bool) (o : Int) (a b : ByteArray) : Bool :=
  bif A.lt 1000 (.ofNat (A.siz a)) then true else bif A.lt 1000 (.ofNat (A.siz b)) then true else
  bif m23 == m24 then
    (bif q25 == (bif A.eq o 1 then true else bif A.eq o 3 then true else A.eq o 4) then
      q26 == (bif A.eq o 5 then true else A.eq o 6)
     else false)
  else false
set_option maxHeartbeats 4000000 in
theorem eq_placketlaw11_InsTells (A : Ar) {m23 m24 q25 q26 : Bool} (o : Int) (a b : ByteArray) (h22 : evl (envV A) (.call 22 [] []) = some (.ret (.s (.bool true)) []))
    (h23 : evl (envV A) (.call 23 [.agg [.s (.int .i64 o), .s (.string a), .s (.string b)]] []) = some (.ret (.s (.bool m23)) []))
    (h24 : evl (envV A) (.call 24 [.agg [.s (.int .i64 o), .s (.string a), .s (.string b)]] []) = some (.ret (.s (.bool m24)) []))
    (h25 : evl (envV A) (.call 25 [.s (.int .i64 o)] []) = some (.ret (.s (.bool q25)) []))
    (h26 : evl (envV A) (.call 26 [.s (.int .i64 o)] []) = some (.ret (.s (.bool q26)) [])) :
    evl (envV A) (.call 5 [.agg [.s (.int .i64 o), .s (.string a), .s (.string b)]] []) = some (.ret (.s (.bool (tellA A m23 m24 q25 q26 o a b))) []) := by
  rw [evl_fn (envV A) 5 _ [] (fn := Try.f5) (c := bd5) (lv := lvF5) rfl rfl rfl rfl rfl rfl]
  generalize evl (envV A) = E at h22 h23 h24 h25 h26 ⊢
  generalize lpOf (envV A) 5 bd5 = LP
  unfold tellA
  obtain ⟨aadd, asub, amul, arem, aquo, awr, ashr, aeq, alt, ale, aseq, aslt, acat, acut, asiz, aat, anle, aneq, afit⟩ := A
  cbv
  rw [h22]
  cbv
  cases alt 1000 (Int.ofNat (asiz a)) <;> cbv
  cases alt 1000 (Int.ofNat (asiz b)) <;> cbv
  rw [h23]
  cbv
  rw [h24]
  cbv
  cases m23 <;> cases m24 <;> cbv
  all_goals
    rw [h25]
    cbv
    cases aeq o 1 <;> cbv
    · cases aeq o 3 <;> cbv
      · cases q25 <;> cases aeq o 4 <;> cbv
        all_goals
          rw [h26]
          cbv
          cases q26 <;> cases aeq o 5 <;> cbv
          all_goals (cases aeq o 6 <;> cbv)
      · cases q25 <;> cbv
        rw [h26]
        cbv
        cases q26 <;> cases aeq o 5 <;> cbv
        all_goals (cases aeq o 6 <;> cbv)
    · cases q25 <;> cbv
      rw [h26]
      cbv
      cases q26 <;> cases aeq o 5 <;> cbv
      all_goals (cases aeq o 6 <;> cbv)
theorem ins_law (o : Int) (a b : ByteArray) (ha : a.size ≤ 9223372036854775807) (hb : b.size ≤ 9223372036854775807) :
    evl (envV realAr) (.call 5 [.agg [.s (.int .i64 o), .s (.string a), .s (.string b)]] []) = some (.ret (.s (.bool true)) []) := by
  have h23 : ∀ o a b, a.size ≤ 9223372036854775807 → b.size ≤ 9223372036854775807 → evl (envV realAr) (.call 23 [.agg [.s (.int .i64 o), .s (.string a), .s (.string b)]] []) = some (.ret (.s (.bool (mayA realAr nameP textP voidP o a b))) []) := fun o a b ha hb =>
    eq_ins_May realAr o a b (name16 a ha) (eq_name_Text realAr realAr_ok b hb) (eq_name_Text realAr realAr_ok a ha) (eq_name_Void realAr a)
  have h24 := eq_placketref11_May realAr (p17 := nameP) (p19 := textP) (p21 := voidP) o a b (eq_placketref01_Name realAr realAr_ok a ha) (eq_placketref01_Text realAr realAr_ok b hb) (eq_placketref01_Text realAr realAr_ok a ha) (eq_placketref01_Void realAr a)
  have h22 : evl (envV realAr) (.call 22 [] []) = some (.ret (.s (.bool true)) []) := by
    refine up_placketlaw11_up realAr ?_ ?_ ?_ ?_ ?_
    · rw [h23 _ _ _ (by decide) (by decide)]; rfl
    · rw [h23 _ _ _ (by decide) (by decide)]; rfl
    · rw [eq_ins_Makes]; rfl
    · rw [eq_ins_Tells]; rfl
    · rw [eq_ins_Makes]; rfl
  rw [eq_placketlaw11_InsTells realAr o a b h22 (h23 o a b ha hb) h24 (eq_ins_Makes realAr o) (eq_ins_Tells realAr o)]
  simp only [tellA, beq_self_eq_true, cond_true]
  cases realAr.lt 1000 (Int.ofNat (realAr.siz a)) <;> cases realAr.lt 1000 (Int.ofNat (realAr.siz b)) <;> rfl
end Go.Va

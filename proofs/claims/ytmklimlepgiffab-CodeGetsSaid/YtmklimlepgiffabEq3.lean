/- The functions that the statement reaches, by equations: no statement of its own. -/
import Derived.Test.YtmklimlepgiffabEq2
set_option linter.unusedVariables false
set_option linter.unusedSimpArgs false
namespace Go.Va
open Go.Proofs
set_option maxRecDepth 100000
theorem eq_ins_Tells (A : Ar) (o : Int) : evl (envV A) (.call 97 [.s (.int .i64 o)] []) = some (.ret (.s (.bool (bif A.eq o 5 then true else A.eq o 6))) []) := by
  rw [evl_fn (envV A) 97 [.s (.int .i64 o)] [] (fn := Try.f97) (c := bd97) (lv := lvF97) rfl rfl rfl rfl rfl rfl]
  generalize evl (envV A) = E
  generalize lpOf (envV A) 97 bd97 = LP
  obtain ⟨aadd, asub, amul, arem, aquo, awr, ashr, aeq, alt, ale, aseq, aslt, acat, acut, asiz, aat, anle, aneq, afit⟩ := A
  cbv
  cases h1 : aeq o 5 <;> cbv
theorem eq_ins_Makes (A : Ar) (o : Int) : evl (envV A) (.call 96 [.s (.int .i64 o)] []) = some (.ret (.s (.bool (bif A.eq o 1 then true else bif A.eq o 3 then true else A.eq o 4))) []) := by
  rw [evl_fn (envV A) 96 [.s (.int .i64 o)] [] (fn := Try.f96) (c := bd96) (lv := lvF96) rfl rfl rfl rfl rfl rfl]
  generalize evl (envV A) = E
  generalize lpOf (envV A) 96 bd96 = LP
  obtain ⟨aadd, asub, amul, arem, aquo, awr, ashr, aeq, alt, ale, aseq, aslt, acat, acut, asiz, aat, anle, aneq, afit⟩ := A
  cbv
  cases h1 : aeq o 1 <;> cbv
  cases h2 : aeq o 3 <;> cbv
def mayA (A : Ar) (p16 p18 p20 : ByteArray → Bool) (o : Int) (a b : ByteArray) : Bool :=
  bif A.eq o 1 then (bif p16 a then (bif p20 a then false else p18 b) else false)
  else bif A.eq o 3 then (bif p20 a then p18 b else false)
  else bif A.eq o 4 then (bif p18 a then A.seq b ⟨#[]⟩ else false)
  else bif A.eq o 5 then (bif p16 a then p18 b else false)
  else bif A.eq o 6 then (bif p16 a then p18 b else false)
  else bif A.eq o 2 then (bif A.seq a ⟨#[]⟩ then A.seq b ⟨#[]⟩ else false)
  else bif A.eq o 7 then (bif A.seq a ⟨#[]⟩ then A.seq b ⟨#[]⟩ else false)
  else bif A.eq o 8 then (bif A.seq a ⟨#[]⟩ then A.seq b ⟨#[]⟩ else false)
  else false
theorem eq_ins_May (A : Ar) {p16 p18 p20 : ByteArray → Bool} (o : Int) (a b : ByteArray) (h16 : evl (envV A) (.call 67 [.s (.string a)] []) = some (.ret (.s (.bool (p16 a))) []))
    (h18 : evl (envV A) (.call 66 [.s (.string b)] []) = some (.ret (.s (.bool (p18 b))) [])) (h18' : evl (envV A) (.call 66 [.s (.string a)] []) = some (.ret (.s (.bool (p18 a))) []))
    (h20 : evl (envV A) (.call 69 [.s (.string a)] []) = some (.ret (.s (.bool (p20 a))) [])) :
    evl (envV A) (.call 59 [.agg [.s (.int .i64 o), .s (.string a), .s (.string b)]] []) = some (.ret (.s (.bool (mayA A p16 p18 p20 o a b))) []) := by
  rw [evl_fn (envV A) 59 _ [] (fn := Try.f59) (c := bd59) (lv := lvF59) rfl rfl rfl rfl rfl rfl]
  generalize evl (envV A) = E at h16 h18 h18' h20 ⊢
  generalize lpOf (envV A) 59 bd59 = LP
  unfold mayA
  generalize p16 a = q16 at h16 ⊢
  generalize p18 a = q18 at h18' ⊢
  generalize p18 b = q18' at h18 ⊢
  generalize p20 a = q20 at h20 ⊢
  obtain ⟨aadd, asub, amul, arem, aquo, awr, ashr, aeq, alt, ale, aseq, aslt, acat, acut, asiz, aat, anle, aneq, afit⟩ := A
  cbv
  cases h1 : aeq o 1 <;> cbv
  · cases h3 : aeq o 3 <;> cbv
    · cases h4 : aeq o 4 <;> cbv
      · cases h5 : aeq o 5 <;> cbv
        · cases h6 : aeq o 6 <;> cbv
          · cases h2 : aeq o 2 <;> cbv
            · cases h7 : aeq o 7 <;> cbv
              · cases h8 : aeq o 8 <;> cbv
                cases aseq a ⟨#[]⟩ <;> cbv
              · cases aseq a ⟨#[]⟩ <;> cbv
            · cases aseq a ⟨#[]⟩ <;> cbv
          · rw [h16]; cases q16 <;> cbv
            rw [h18]; cbv
        · rw [h16]; cases q16 <;> cbv
          rw [h18]; cbv
      · rw [h18']; cases q18 <;> cbv
    · rw [h20]; cases q20 <;> cbv
      rw [h18]; cbv
  · rw [h16]; cases q16 <;> cbv
    rw [h20]; cases q20 <;> cbv
    rw [h18]; cbv
set_option maxHeartbeats 4000000 in
theorem eq_placketref11_May (A : Ar) {p17 p19 p21 : ByteArray → Bool} (o : Int) (a b : ByteArray) (h17 : evl (envV A) (.call 73 [.s (.string a)] []) = some (.ret (.s (.bool (p17 a))) []))
    (h19 : evl (envV A) (.call 72 [.s (.string b)] []) = some (.ret (.s (.bool (p19 b))) [])) (h19' : evl (envV A) (.call 72 [.s (.string a)] []) = some (.ret (.s (.bool (p19 a))) []))
    (h21 : evl (envV A) (.call 75 [.s (.string a)] []) = some (.ret (.s (.bool (p21 a))) [])) :
    evl (envV A) (.call 95 [.agg [.s (.int .i64 o), .s (.string a), .s (.string b)]] []) = some (.ret (.s (.bool (mayA A p17 p19 p21 o a b))) []) := by
  rw [evl_fn (envV A) 95 _ [] (fn := Try.f95) (c := bd95) (lv := lvF95) rfl rfl rfl rfl rfl rfl]
  generalize evl (envV A) = E at h17 h19 h19' h21 ⊢
  generalize lpOf (envV A) 95 bd95 = LP
  unfold mayA
  generalize p17 a = q17 at h17 ⊢
  generalize p19 a = q19 at h19' ⊢
  generalize p19 b = q19' at h19 ⊢
  generalize p21 a = q21 at h21 ⊢
  obtain ⟨aadd, asub, amul, arem, aquo, awr, ashr, aeq, alt, ale, aseq, aslt, acat, acut, asiz, aat, anle, aneq, afit⟩ := A
  cbv
  rw [h17]
  cbv
  rw [h21]
  cbv
  rw [h19']
  cbv
  rw [h19]
  cbv
  cases h1 : aeq o 1 <;> cbv
  · cases h3 : aeq o 3 <;> cbv
    · cases h4 : aeq o 4 <;> cbv
      · cases h5 : aeq o 5 <;> cbv
        · cases h6 : aeq o 6 <;> cbv
          · cases h2 : aeq o 2 <;> cbv
            · cases h7 : aeq o 7 <;> cbv
              · cases h8 : aeq o 8 <;> cbv
                cases aseq a ⟨#[]⟩ <;> cbv
              · cases aseq a ⟨#[]⟩ <;> cbv
            · cases aseq a ⟨#[]⟩ <;> cbv
          · cases q17 <;> cbv
        · cases q17 <;> cbv
      · cases q19 <;> cbv
    · cases q21 <;> cbv
  · cases q17 <;> cbv
    cases q21 <;> cbv
end Go.Va

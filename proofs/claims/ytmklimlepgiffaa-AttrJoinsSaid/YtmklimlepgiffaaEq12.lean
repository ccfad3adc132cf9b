/- The functions that the statement reaches, by equations: no statement of its own. -/
import Derived.Test.YtmklimlepgiffaaEq11
set_option linter.unusedVariables false
set_option linter.unusedSimpArgs false
set_option linter.unusedSectionVars false
namespace Go.Va
open Go.Proofs
set_option maxRecDepth 100000
set_option maxHeartbeats 4000000
/-! the document's Join -/
def refR (os : List AttrT) : List AttrT → List AttrT
  | [] => os
  | a :: r => refR (bif a.2.2 || hasA os a then os else os ++ [a]) r
theorem refR_join : ∀ (m os : List AttrT), refR os m = joinR os (m.filter (keepA false))
  | [], os => rfl
  | a :: m, os => by
    rw [refR, List.filter_cons, keep_false, refR_join m]
    cases h : a.2.2
    · simp only [Bool.not_false, if_true, Bool.false_or, joinR]
    · simp
theorem lp_r3 (ys : List AttrT) (os : List AttrT) (hl : os.length ≤ 5000) (i : Nat) (hi : i < ys.length) : ∀ (f j : Nat) (met : Bool), f + j = os.length →
    lpOf (envV realAr) 68 bd68 12 (stT3 (ys.map attrA) (os.map attrA) i j met) = some (.code (.exit 4) (stT3e (ys.map attrA) (os.map attrA) i os.length (met || (os.drop j).any fun x => realAr.seq x.1 ys[i].1)))
  | 0, j, met, h => by
    have : j = os.length := by omega
    subst this
    rw [List.drop_length]
    simp only [List.any_nil, Bool.or_false]
    exact lp_rj_3e realAr realAr_ok _ _ i _ os.length met (al_len _) (natlt_f (Nat.le_refl _))
  | f + 1, j, met, h => by
    have hj : j < os.length := by omega
    have hn := lp_r3 ys os hl i hi f (j + 1) (bif met then true else realAr.seq os[j].1 ys[i].1) (by omega)
    have := lp_rj_3 realAr realAr_ok _ _ ys.length i j os.length os[j].1 os[j].2.1 os[j].2.2 met ys[i].1 ys[i].2.1 ys[i].2.2 (al_len _) (al_len _) (attr_get hj) (nble hj) (attr_get hi) (nble hi) (Nat.zero_add _) (natlt_t hj) (natinc (by omega)) hn
    rw [this, List.drop_eq_getElem_cons hj, List.any_cons]
    cases met <;> simp
theorem lp_r2 (ys : List AttrT) (hl : ys.length ≤ 1000) : ∀ (f i : Nat) (os : List AttrT), f + i = ys.length → os.length ≤ 1000 + i →
    lpOf (envV realAr) 68 bd68 8 (stT2 (ys.map attrA) (os.map attrA) i) = some (.code (.exit 2) { n := 74, k := 0, fr := [(1, .sl 3 (ys.map attrA) .imm), (5, .sl 3 ((refR os (ys.drop i)).map attrA) .full), (7, .s (.int .i64 (.ofNat ys.length))), (31, .s (.bool false))], O := [] })
  | 0, i, os, h, ho => by
    have : i = ys.length := by omega
    subst this
    rw [List.drop_length]
    exact lp_rj_2e realAr realAr_ok _ _ ys.length _ os.length (al_len _) (al_len _) (natlt_f (Nat.le_refl _))
  | f + 1, i, os, h, ho => by
    have hi : i < ys.length := by omega
    have hn := lp_r2 ys hl f (i + 1) (bif ys[i].2.2 || hasA os ys[i] then os else os ++ [ys[i]]) (by omega) (by cases (ys[i].2.2 || hasA os ys[i]) <;> simp <;> omega)
    have h3 := lp_r3 ys os (by omega) i hi os.length 0 ys[i].2.2 (by omega)
    rw [List.drop_zero] at h3
    rw [List.drop_eq_getElem_cons hi, refR]
    refine lp_rj_2 realAr realAr_ok _ _ _ ys.length i os.length ys[i].1 ys[i].2.1 ys[i].2.2 (ys[i].2.2 || hasA os ys[i]) (al_len _) (al_len _) (attr_get hi) (nble hi) (nbeq _) (al_snoc os ys[i]) (natlt_t hi) (afit (by show (os.length + 1) * 40 ≤ _; omega)) (natinc (by omega)) h3 ?_
    revert hn
    cases (ys[i].2.2 || hasA os ys[i]) <;> exact id
theorem lp_r1 (l : List AttrT) (ys : List AV) (hl : l.length ≤ 1000) : ∀ (f i : Nat) (os : List AttrT), f + i = l.length → os.length ≤ i →
    lpOf (envV realAr) 68 bd68 3 (stT1 (l.map attrA) ys (os.map attrA) i) = some (.code (.exit 0) { n := 74, k := 0, fr := [(0, .sl 3 (l.map attrA) .imm), (1, .sl 3 ys .imm), (5, .sl 3 ((os ++ (l.drop i).filter (keepA true)).map attrA) .full), (6, .s (.int .i64 (.ofNat l.length))), (13, .s (.bool false))], O := [] })
  | 0, i, os, h, ho => by
    have : i = l.length := by omega
    subst this
    rw [List.drop_length, List.filter_nil, List.append_nil]
    exact lp_rj_1e realAr realAr_ok _ ys _ l.length _ os.length (al_len _) (al_len _) (natlt_f (Nat.le_refl _))
  | f + 1, i, os, h, ho => by
    have hi : i < l.length := by omega
    have hn := lp_r1 l ys hl f (i + 1) (bif l[i].2.2 then os ++ [l[i]] else os) (by omega) (by cases l[i].2.2 <;> simp <;> omega)
    have e : os ++ (l.drop i).filter (keepA true) = (bif l[i].2.2 then os ++ [l[i]] else os) ++ (l.drop (i + 1)).filter (keepA true) := by
      rw [List.drop_eq_getElem_cons hi, List.filter_cons, keep_true]
      cases l[i].2.2 <;> simp
    rw [e]
    refine lp_rj_1 realAr realAr_ok _ ys _ _ l.length i os.length l[i].1 l[i].2.1 l[i].2.2 (al_len _) (al_len _) (attr_get hi) (nble hi) (nbeq _) (al_snoc os l[i]) (natlt_t hi) (afit (by show (os.length + 1) * 40 ≤ _; omega)) (natinc (by omega)) ?_
    revert hn
    cases l[i].2.2 <;> exact id
theorem s_ref01_Join (l m : List AttrT) (hl : l.length ≤ 1000) (hm : m.length ≤ 1000) : evl (envV realAr) (.call 68 [.sl 3 (l.map attrA) .imm, .sl 3 (m.map attrA) .imm] []) = some (.ret (.sl 3 ((joinL l m).map attrA) .full) []) := by
  have hf := fil_len true l
  have h1 := lp_r1 l (m.map attrA) hl l.length 0 [] (by omega) (by simp)
  have h2 := lp_r2 m hm m.length 0 (l.filter (keepA true)) (by omega) (by omega)
  rw [List.drop_zero, List.nil_append] at h1
  rw [List.drop_zero, refR_join] at h2
  unfold joinL
  generalize hj : joinR (l.filter (keepA true)) (m.filter (keepA false)) = J at h2
  by_cases h8 : 8 < J.length
  · exact eq_rj_many realAr realAr_ok _ _ _ (J.map attrA) _ l.length m.length _ J.length (al_len _) (al_len _) (nble (by omega)) (by rw [List.map_take]) (by simp; omega) (by rw [List.take_of_length_le (by simp; omega)]) (by rw [realAr_lt']; simp; omega) h1 h2
  · rw [List.take_of_length_le (by omega)]
    exact eq_rj_few realAr realAr_ok _ _ _ (J.map attrA) l.length m.length _ J.length (al_len _) (al_len _) (nble (Nat.le_refl _)) (al_take _ _ (Nat.le_refl _)) (by rw [realAr_lt']; simp; omega) h1 h2
/-! what is found -/
def foundR (l : List AttrT) (nm : ByteArray) (w : AttrT) (met : Bool) : AttrT × Bool := match l.find? (fun a => realAr.seq a.1 nm) with
  | some a => (a, true)
  | none => (w, met)
theorem find_idx (nm : ByteArray) : ∀ l : List AttrT, (∃ i, ∃ h : i < l.length, l.findIdx? (fun a => realAr.seq a.1 nm) = some i ∧ l.find? (fun a => realAr.seq a.1 nm) = some l[i]) ∨ (l.findIdx? (fun a => realAr.seq a.1 nm) = none ∧ l.find? (fun a => realAr.seq a.1 nm) = none)
  | [] => .inr ⟨rfl, rfl⟩
  | a :: l => by
    rw [List.findIdx?_cons, List.find?_cons]
    cases h : realAr.seq a.1 nm with
    | true => exact .inl ⟨0, by simp, rfl, rfl⟩
    | false =>
      rcases find_idx nm l with ⟨i, hi, h1, h2⟩ | ⟨h1, h2⟩
      · left
        exact ⟨i + 1, by simp; omega, by simp [h1], by simp [h2]⟩
      · right
        exact ⟨by simp [h1], by simp [h2]⟩
def zeroT : AttrT := (⟨#[]⟩, ⟨#[]⟩, false)
theorem s_attr_Find (l : List AttrT) (nm : ByteArray) (hl : l.length ≤ 1000) : evl (envV realAr) (.call 62 [.sl 3 (l.map attrA) .imm, .s (.string nm)] []) = some (.ret (.tup [attrA (foundR l nm zeroT false).1, .s (.bool (foundR l nm zeroT false).2)]) []) := by
  have ha := s_attr_at l .imm (.inr rfl) nm (by omega)
  unfold atI at ha
  unfold foundR
  rcases find_idx nm l with ⟨i, hi, h1, h2⟩ | ⟨h1, h2⟩
  · rw [h1] at ha
    rw [h2]
    exact eq_attr_Find realAr realAr_ok _ l.length i l[i].1 l[i].2.1 l[i].2.2 (al_len _) (attr_get hi) (nble hi) nm ha (by rw [realAr_lt']; simp)
  · rw [h1] at ha
    rw [h2]
    exact eq_attr_Find0 realAr realAr_ok _ l.length (al_len _) nm ha
abbrev celA (a : AttrT) : List AV := [.s (.string a.1), .s (.string a.2.1), .s (.bool a.2.2)]
theorem lp_atl (l : List AttrT) (ys : List AV) (nm : ByteArray) (hl : l.length ≤ 1000) : ∀ (i : Nat) (w : AttrT) (met : Bool), i ≤ l.length →
    lpOf (envV realAr) 12 bd12 7 (stAT (l.map attrA) ys nm (celA w) met ((i : Int) - 1)) = some (.code (.exit 0) (stATe (l.map attrA) ys nm (celA (foundR (l.take i) nm w met).1) (foundR (l.take i) nm w met).2 (-1)))
  | 0, w, met, _ => lp_at_end realAr realAr_ok _ ys nm w.1 w.2.1 w.2.2 met (-1) rfl
  | i + 1, w, met, h => by
    have hi : i < l.length := by omega
    rw [show (((i + 1 : Nat) : Int) - 1) = Int.ofNat i by simp]
    have hsub : realAr.sub .i64 (.ofNat i) 1 = ((i : Int) - 1) := by
      rw [realAr_ok.sub]
      show IntKind.wrap .i64 ((i : Int) - 1) = _
      rw [IntKind.wrap_i64]
      omega
    refine lp_at_loop realAr realAr_ok _ ys l.length i nm l[i].1 l[i].2.1 w.1 w.2.1 l[i].2.2 w.2.2 met _ (al_len _) (attr_get hi) (nble hi) (by rw [realAr_ok.le]; simp) hsub ?_
    have e : foundR (l.take (i + 1)) nm w met = foundR (l.take i) nm (bif realAr.seq l[i].1 nm then l[i] else w) (bif realAr.seq l[i].1 nm then true else met) := by
      unfold foundR
      rw [List.take_succ_eq_append_getElem hi, List.find?_append]
      cases (l.take i).find? (fun a => realAr.seq a.1 nm) with
      | some a => rfl
      | none =>
        simp only [Option.none_or, List.find?_cons, List.find?_nil]
        cases realAr.seq l[i].1 nm <;> rfl
    rw [e]
    have hn := fun w met => lp_atl l ys nm hl i w met (by omega)
    cases realAr.seq l[i].1 nm
    · exact hn w met
    · exact hn l[i] true
theorem s_same_f (l : List AttrT) (hl : l.length ≤ 100000) : evl (envV realAr) (.call 66 [.sl 3 (l.map attrA) .full, .sl 3 (l.map attrA) .full] []) = some (.ret (.s (.bool true)) []) := by
  have key : ∀ (f i : Nat), f + i = l.length → lpOf (envV realAr) 66 bd66 4 (stDf (l.map attrA) (l.map attrA) i) = some (.code (.exit 0) { n := 26, k := 0, fr := [(0, .sl 3 (l.map attrA) .full), (1, .sl 3 (l.map attrA) .full), (5, .s (.int .i64 (.ofNat l.length))), (14, .s (.bool false))], O := [] }) := by
    intro f
    induction f with
    | zero =>
      intro i h
      have : i = l.length := by omega
      subst this
      exact lp_same_fe realAr realAr_ok _ l.length _ (al_len _) (natlt_f (Nat.le_refl _))
    | succ f ih =>
      intro i h
      have hi : i < l.length := by omega
      exact lp_same_f realAr realAr_ok _ l.length i l[i].1 l[i].2.1 l[i].2.2 (attr_get hi) (nble hi) (al_len _) (Nat.zero_add _) (natlt_t hi) (natinc (by omega)) (seqr _) (seqr _) (ih (i + 1) (by omega))
  exact eq_same_f realAr realAr_ok _ l.length (al_len _) (by rw [same_len]; simp) (key l.length 0 (by omega))
theorem sameR_refl : ∀ vs : List AttrT, sameR vs vs = true
  | [] => rfl
  | a :: vs => by
    rw [sameR, sameR_refl vs]
    unfold same1
    rw [seqr, seqr]
    simp
theorem s_law03_up : evl (envV realAr) (.call 60 [] []) = some (.ret (.s (.bool true)) []) := evl_of (n := 60) (by kernel_rfl)
theorem attrTells_law (l m : List AttrT) (nm : ByteArray) : evl (envV realAr) (.call 12 [.sl 3 (l.map attrA) .imm, .sl 3 (m.map attrA) .imm, .s (.string nm)] []) = some (.ret (.s (.bool true)) []) := by
  rcases s_few3 l with h1 | ⟨h1, f1, g1⟩
  · exact eq_at_few1 realAr realAr_ok _ _ nm s_law03_up h1
  · rcases s_few3 m with h2 | ⟨h2, f2, g2⟩
    · exact eq_at_few2 realAr realAr_ok _ _ nm s_law03_up h1 h2
    · by_cases hz : 100 < nm.size
      · exact eq_at_few3 realAr realAr_ok _ _ nm nm.size s_law03_up h1 h2 rfl (by rw [realAr_lt']; simp; omega)
      · have hsub : realAr.sub .i64 (.ofNat l.length) 1 = ((l.length : Int) - 1) := by
          rw [realAr_ok.sub]
          show IntKind.wrap .i64 ((l.length : Int) - 1) = _
          rw [IntKind.wrap_i64]
          omega
        have hloop := lp_atl l (m.map attrA) nm (by omega) l.length zeroT false (Nat.le_refl _)
        rw [List.take_of_length_le (Nat.le_refl _)] at hloop
        have fa : ∀ x : List AttrT, few3 x → fewA x := fun x hx a ha => by have := hx a ha; omega
        have hsl := s_attr_Same l l .imm .imm (.inr rfl) (.inr rfl) (by omega)
        have hrefl : sameL l l = true := by unfold sameL; rw [sameR_refl]; simp
        rw [hrefl] at hsl
        have hj : (joinL l m).length ≤ 8 := by unfold joinL; simp; omega
        have hnl : (newL m).length ≤ 100000 := by
          have := fil_len true m
          have := fil_len false m
          simp [newL]
          omega
        exact eq_at realAr realAr_ok _ _ ((joinL l m).map attrA) ((newL m).map attrA) l.length m.length (joinL l m).length (newL m).length nm _ _ _ _ _ nm.size (mayL l) (sameL l m) (-1) s_law03_up h1 h2 rfl (by rw [realAr_lt']; simp; omega) (al_len _) hsub hloop (s_attr_Find l nm (by omega))
          (s_attr_May l .imm (.inr rfl) (by omega) (fa l f1)) (s_ref01_May l .imm (.inr rfl) (by omega) (fa l f1)) (s_attr_Same l m .imm .imm (.inr rfl) (.inr rfl) (by omega)) (s_ref01_Same l m .imm .imm (.inr rfl) (.inr rfl) (by omega)) hsl
          (s_attr_Join l m .imm (.inr rfl) (by omega) (by omega)) (s_ref01_Join l m (by omega) (by omega)) (s_same_f _ (by omega)) (s_attr_New m (by omega)) (s_ref01_New m (by omega)) (s_same_f _ hnl) (seqr _) (seqr _) (al_len _) (al_len _) (al_len _)
end Go.Va

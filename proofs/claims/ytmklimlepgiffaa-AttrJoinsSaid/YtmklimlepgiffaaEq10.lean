/- The functions that the statement reaches, by equations: no statement of its own. -/
import Derived.Test.YtmklimlepgiffaaEq9
set_option linter.unusedVariables false
set_option linter.unusedSimpArgs false
set_option linter.unusedSectionVars false
namespace Go.Va
open Go.Proofs
set_option maxRecDepth 100000
set_option maxHeartbeats 4000000
theorem al_len (l : List AttrT) : (l.map attrA).length = l.length := by simp
theorem al_take (l : List AttrT) (k : Nat) (h : l.length ≤ k) : (l.map attrA).take k = l.map attrA := List.take_of_length_le (by simpa using h)
theorem al_cut (l : List AttrT) : lcut (l.map attrA) 0 l.length = l.map attrA := by rw [lcut, List.drop_zero, al_take _ _ (Nat.le_refl _)]
theorem al_snoc (l : List AttrT) (a : AttrT) : l.map attrA ++ [attrA a] = (l ++ [a]).map attrA := by simp
theorem afit {n b : Nat} (h : n * b ≤ 70368744177664) : realAr.fit n b = true := by rw [realAr_ok.fit]; exact decide_eq_true h
theorem nbeq (n : Nat) : Nat.beq n n = true := Nat.beq_refl n
theorem fil_len (b : Bool) (l : List AttrT) : (l.filter (keepA b)).length ≤ l.length := List.length_filter_le ..
/-! New -/
def newL (l : List AttrT) : List AttrT := l.filter (keepA true) ++ l.filter (keepA false)
theorem s_attr_New (l : List AttrT) (hl : l.length ≤ 1000) : evl (envV realAr) (.call 69 [.sl 3 (l.map attrA) .imm] []) = some (.ret (.sl 3 ((newL l).map attrA) .full) []) := by
  have h1 := fil_len true l
  have h2 := fil_len false l
  exact eq_attr_New realAr realAr_ok _ _ _ ((newL l).map attrA) (l.filter (keepA false)).length (l.filter (keepA true)).length _ (al_len _) (al_len _) (nbeq _) rfl (by simp [newL]) (by simp [newL]) (nble (Nat.le_refl _)) (List.take_of_length_le (by simp [newL])) (s_attr_some l .imm (.inr rfl) true (by omega)) (s_attr_some l .imm (.inr rfl) false (by omega)) (afit (by omega))
theorem keep_true (a : AttrT) : keepA true a = a.2.2 := by cases h : a.2.2 <;> simp [keepA, h]
theorem keep_false (a : AttrT) : keepA false a = !a.2.2 := by cases h : a.2.2 <;> simp [keepA, h]
theorem lp_rn1 (l : List AttrT) (hl : l.length ≤ 1000) : ∀ (m i : Nat) (os : List AttrT), m + i = l.length → os.length ≤ i →
    lpOf (envV realAr) 70 bd70 3 { n := 44, k := 0, fr := [(0, .sl 3 (l.map attrA) .imm), (3, .sl 3 (os.map attrA) .full), (4, .s (.int .i64 (.ofNat i)))], O := [] } =
      some (.code (.exit 0) { n := 44, k := 0, fr := [(0, .sl 3 (l.map attrA) .imm), (3, .sl 3 ((os ++ (l.drop i).filter (keepA true)).map attrA) .full), (4, .s (.int .i64 (.ofNat l.length))), (9, .s (.bool false))], O := [] })
  | 0, i, os, h, ho => by
    have : i = l.length := by omega
    subst this
    rw [List.drop_length, List.filter_nil, List.append_nil]
    exact lp_rnew_1e realAr realAr_ok _ _ l.length _ os.length (al_len _) (al_len _) (natlt_f (Nat.le_refl _))
  | m + 1, i, os, h, ho => by
    have hi : i < l.length := by omega
    have hn := lp_rn1 l hl m (i + 1) (bif l[i].2.2 then os ++ [l[i]] else os) (by omega) (by cases l[i].2.2 <;> simp <;> omega)
    have e : os ++ (l.drop i).filter (keepA true) = (bif l[i].2.2 then os ++ [l[i]] else os) ++ (l.drop (i + 1)).filter (keepA true) := by
      rw [List.drop_eq_getElem_cons hi, List.filter_cons, keep_true]
      cases l[i].2.2 <;> simp
    rw [e]
    refine lp_rnew_1 realAr realAr_ok _ _ _ l.length i os.length l[i].1 l[i].2.1 l[i].2.2 (al_len _) (al_len _) (attr_get hi) (nble hi) (nbeq _) (al_snoc os l[i]) (natlt_t hi) (afit (by show (os.length + 1) * 40 ≤ _; omega)) (natinc (by omega)) ?_
    revert hn
    cases l[i].2.2 <;> exact id
theorem lp_rn2 (l : List AttrT) (hl : l.length ≤ 1000) : ∀ (m i : Nat) (os : List AttrT), m + i = l.length → os.length ≤ 1000 + i →
    lpOf (envV realAr) 70 bd70 8 { n := 44, k := 0, fr := [(0, .sl 3 (l.map attrA) .imm), (3, .sl 3 (os.map attrA) .full), (5, .s (.int .i64 (.ofNat i)))], O := [] } =
      some (.code (.exit 2) { n := 44, k := 0, fr := [(0, .sl 3 (l.map attrA) .imm), (3, .sl 3 ((os ++ (l.drop i).filter (keepA false)).map attrA) .full), (5, .s (.int .i64 (.ofNat l.length))), (27, .s (.bool false))], O := [] })
  | 0, i, os, h, ho => by
    have : i = l.length := by omega
    subst this
    rw [List.drop_length, List.filter_nil, List.append_nil]
    exact lp_rnew_2e realAr realAr_ok _ _ l.length _ os.length (al_len _) (al_len _) (natlt_f (Nat.le_refl _))
  | m + 1, i, os, h, ho => by
    have hi : i < l.length := by omega
    have hn := lp_rn2 l hl m (i + 1) (bif l[i].2.2 then os else os ++ [l[i]]) (by omega) (by cases l[i].2.2 <;> simp <;> omega)
    have e : os ++ (l.drop i).filter (keepA false) = (bif l[i].2.2 then os else os ++ [l[i]]) ++ (l.drop (i + 1)).filter (keepA false) := by
      rw [List.drop_eq_getElem_cons hi, List.filter_cons, keep_false]
      cases l[i].2.2 <;> simp
    rw [e]
    refine lp_rnew_2 realAr realAr_ok _ _ _ l.length i os.length l[i].1 l[i].2.1 l[i].2.2 (al_len _) (al_len _) (attr_get hi) (nble hi) (nbeq _) (al_snoc os l[i]) (natlt_t hi) (afit (by show (os.length + 1) * 40 ≤ _; omega)) (natinc (by omega)) ?_
    revert hn
    cases l[i].2.2 <;> exact id
theorem s_ref01_New (l : List AttrT) (hl : l.length ≤ 1000) : evl (envV realAr) (.call 70 [.sl 3 (l.map attrA) .imm] []) = some (.ret (.sl 3 ((newL l).map attrA) .full) []) := by
  have h1 := lp_rn1 l hl l.length 0 [] (by omega) (by simp)
  have hf := fil_len true l
  have h2 := lp_rn2 l hl l.length 0 (l.filter (keepA true)) (by omega) (by omega)
  rw [List.drop_zero, List.nil_append] at h1
  rw [List.drop_zero] at h2
  exact eq_rnew realAr realAr_ok _ ((l.filter (keepA true)).map attrA) _ l.length _ (newL l).length (al_len _) (al_len _) (nble (Nat.le_refl _)) (al_take _ _ (Nat.le_refl _)) h1 h2
/-! Join -/
def hasA (os : List AttrT) (a : AttrT) : Bool := os.any fun x => realAr.seq x.1 a.1
def joinR (os : List AttrT) : List AttrT → List AttrT
  | [] => os
  | a :: r => joinR (bif hasA os a then os else os ++ [a]) r
def joinL (l m : List AttrT) : List AttrT := (joinR (l.filter (keepA true)) (m.filter (keepA false))).take 8
theorem joinR_len : ∀ (ws os : List AttrT), (joinR os ws).length ≤ os.length + ws.length
  | [], os => by simp [joinR]
  | a :: r, os => by
    rw [joinR]
    have := joinR_len r (bif hasA os a then os else os ++ [a])
    cases h : hasA os a <;> rw [h] at this <;> simp at this ⊢ <;> omega
theorem lp_jn (ws : List AttrT) (hl : ws.length ≤ 1000) : ∀ (m i : Nat) (os : List AttrT), m + i = ws.length → os.length ≤ 1000 + i →
    lpOf (envV realAr) 67 bd67 3 (stJ (os.map attrA) (ws.map attrA) ws.length i) = some (.code (.exit 0) (stJe ((joinR os (ws.drop i)).map attrA) (ws.map attrA) ws.length ws.length))
  | 0, i, os, h, ho => by
    have : i = ws.length := by omega
    subst this
    rw [List.drop_length]
    exact lp_join_end realAr realAr_ok _ _ _ _ (natlt_f (Nat.le_refl _))
  | m + 1, i, os, h, ho => by
    have hi : i < ws.length := by omega
    have hn := lp_jn ws hl m (i + 1) (bif hasA os ws[i] then os else os ++ [ws[i]]) (by omega) (by cases hasA os ws[i] <;> simp <;> omega)
    have ha := s_attr_at os .ro (.inl rfl) ws[i].1 (by omega)
    unfold atI at ha
    have hsome : (os.findIdx? (fun a => realAr.seq a.1 ws[i].1)).isSome = hasA os ws[i] := by rw [List.findIdx?_isSome]; rfl
    rw [List.drop_eq_getElem_cons hi, joinR]
    cases hf : os.findIdx? (fun a => realAr.seq a.1 ws[i].1) with
    | some d =>
      rw [hf] at ha hsome
      have hh : hasA os ws[i] = true := by rw [← hsome]; rfl
      rw [hh] at hn ⊢
      exact lp_join_have realAr realAr_ok _ _ ws.length i os.length ws[i].1 ws[i].2.1 ws[i].2.2 d (al_len _) (al_len _) (attr_get hi) (nble hi) (Nat.zero_add _) (al_cut _) (nble (Nat.le_refl _)) (Nat.zero_add _) (natlt_t hi) ha (by rw [realAr_lt']; simp) (natinc (by omega)) hn
    | none =>
      rw [hf] at ha hsome
      have hh : hasA os ws[i] = false := by rw [← hsome]; rfl
      rw [hh] at hn ⊢
      exact lp_join_new realAr realAr_ok _ _ _ ws.length i os.length ws[i].1 ws[i].2.1 ws[i].2.2 (al_len _) (al_len _) (attr_get hi) (nble hi) (Nat.zero_add _) (al_cut _) (nble (Nat.le_refl _)) (Nat.zero_add _) (nbeq _) (al_snoc os ws[i]) (natlt_t hi) ha (afit (by show (os.length + 1) * 40 ≤ _; omega)) (natinc (by omega)) hn
theorem s_attr_Join (l m : List AttrT) (p : Perm) (hp : p = .ro ∨ p = .imm) (hl : l.length ≤ 1000) (hm : m.length ≤ 1000) : evl (envV realAr) (.call 67 [.sl 3 (l.map attrA) p, .sl 3 (m.map attrA) .imm] []) = some (.ret (.sl 3 ((joinL l m).map attrA) .full) []) := by
  have h1 := fil_len true l
  have h2 := fil_len false m
  have h3 := lp_jn (m.filter (keepA false)) (by omega) (m.filter (keepA false)).length 0 (l.filter (keepA true)) (by omega) (by omega)
  rw [List.drop_zero] at h3
  have s1 := s_attr_some l p hp true (by omega)
  have s2 := s_attr_some m .imm (.inr rfl) false (by omega)
  unfold joinL
  generalize hj : joinR (l.filter (keepA true)) (m.filter (keepA false)) = J at h3
  by_cases h8 : 8 < J.length
  · refine eq_attr_Join_many realAr realAr_ok _ _ _ _ _ _ _ _ J.length p hp (al_len _) (al_len _) (nble (Nat.le_refl _)) (al_len _) (nble (by omega)) (by rw [List.map_take]) (by simp; omega) (by rw [List.take_of_length_le (by simp; omega)]) s1 s2 h3 (by rw [realAr_lt']; simp; omega)
  · rw [List.take_of_length_le (by omega)]
    exact eq_attr_Join_few realAr realAr_ok _ _ _ _ _ _ _ J.length p hp (al_len _) (al_len _) (nble (Nat.le_refl _)) (al_len _) (nble (Nat.le_refl _)) (al_take _ _ (Nat.le_refl _)) (al_cut _) (Nat.zero_add _) s1 s2 h3 (by rw [realAr_lt']; simp; omega)
end Go.Va

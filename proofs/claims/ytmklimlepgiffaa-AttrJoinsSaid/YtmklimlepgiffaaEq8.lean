/- The functions that the statement reaches, by equations: no statement of its own. -/
import Derived.Test.YtmklimlepgiffaaEq7
set_option linter.unusedVariables false
set_option linter.unusedSimpArgs false
set_option linter.unusedSectionVars false
namespace Go.Va
open Go.Proofs
set_option maxRecDepth 100000
set_option maxHeartbeats 4000000
theorem s_clone (l : List AttrT) (p : Perm) (hp : p = .ro ∨ p = .imm) (hl : l.length ≤ 1000000) : evl (envV realAr) (.call 106 [.sl 3 (l.map attrA) p] []) = some (.ret (.sl 3 (l.map attrA) .full) []) := by
  rw [evl_ext (envV realAr) _ _ _ (e := yClone 3) rfl]
  cases l with
  | nil => rcases hp with rfl | rfl <;> rfl
  | cons a l =>
    have h : (Nat.beq 3 3 && Nat.ble (l.map attrA).length 1000000) = true := by
      simp only [List.length_map, List.length_cons] at hl ⊢
      rw [Nat.ble_eq_true_of_le (by omega)]
      rfl
    rcases hp with rfl | rfl <;> (simp only [yClone, List.map_cons, h, cond_true]; rfl)
/-- those that are static, or aren't -/
def keepA (b : Bool) (a : AttrT) : Bool := a.2.2 == b
theorem del_q (a : AttrT) (b : Bool) : evl (envV realAr) (.call 107 [attrA a, .ptr 0 0] [[.s (.bool b)]]) = some (.ret (.s (.bool (!(keepA b a)))) [[.s (.bool b)]]) := eq_attr_some1 realAr a.1 a.2.1 a.2.2 b
theorem lp_someI (l : List AttrT) (b : Bool) (hl : l.length ≤ 1000000) : ∀ (m i : Nat), m + i = l.length →
    lpOf (envV realAr) 103 bd103 2 (stV (l.map attrA) b l.length i) = (match (l.drop i).findIdx? (fun a => !(keepA b a)) with
      | some j => some (.code .ret { n := 19, k := 1, fr := [(4, .s (.int .i64 (.ofNat (i + j))))], O := [[.s (.bool b)]] })
      | none => some (.code (.exit 0) (stVe (l.map attrA) b l.length l.length)))
  | 0, i, h => by
    have : i = l.length := by omega
    subst this
    rw [List.drop_length]
    exact lp_some_idx_end realAr realAr_ok _ _ _ b (by simp) (natlt_f (Nat.le_refl _))
  | m + 1, i, h => by
    have hi : i < l.length := by omega
    have := lp_some_idx realAr realAr_ok _ l.length i l[i].1 l[i].2.1 l[i].2.2 b _ (attr_get hi) (nble hi) (by simp) (natlt_t hi) (natinc (by omega)) (del_q l[i] b) (lp_someI l b hl m (i + 1) (by omega))
    rw [this, List.drop_eq_getElem_cons hi, List.findIdx?_cons]
    cases h1 : !(keepA b l[i]) with
    | true => simp
    | false =>
      simp only [cond_false, Bool.false_eq_true, if_false]
      cases (l.drop (i + 1)).findIdx? (fun a => !(keepA b a)) with
      | none => rfl
      | some j =>
        simp only [Option.map_some]
        rw [show i + 1 + j = i + (j + 1) by omega]
theorem lp_del (l : List AttrT) (b : Bool) (hl : l.length ≤ 1000000) : ∀ (m j i : Nat) (zs : List AttrT), m + j = l.length → i < j → zs.length = l.length → zs.drop j = l.drop j →
    ∃ (ws : List AttrT) (k : Nat), lpOf (envV realAr) 105 bd105 5 (stW (zs.map attrA) b i j) = some (.code (.exit 0) (stWe (ws.map attrA) b k l.length)) ∧ ws.length = l.length ∧ k ≤ l.length ∧ ws.take k = zs.take i ++ (l.drop j).filter (keepA b)
  | 0, j, i, zs, h, hi, hz, hd => by
    have : j = l.length := by omega
    subst this
    refine ⟨zs, i, lp_del_end realAr realAr_ok _ l.length i _ b (by simp [hz]) (natlt_f (Nat.le_refl _)), hz, by omega, ?_⟩
    rw [List.drop_length]
    simp
  | m + 1, j, i, zs, h, hi, hz, hd => by
    have hj : j < l.length := by omega
    have hjz : j < zs.length := by omega
    have hiz : i < zs.length := by omega
    have hv : zs[j] = l[j] := by
      have := congrArg (fun x => x[0]?) hd
      simp [hj, hjz] at this
      exact this
    have hg : lget (zs.map attrA) j = some (attrA l[j]) := by rw [attr_get hjz, hv]
    have hd1 : zs.drop (j + 1) = l.drop (j + 1) := by rw [← List.drop_drop, hd, List.drop_drop]
    have hq := del_q l[j] b
    rw [List.drop_eq_getElem_cons hj, List.filter_cons]
    cases hk : keepA b l[j] with
    | true =>
      rw [hk] at hq
      have hzs : (zs.set i l[j]).drop (j + 1) = l.drop (j + 1) := by
        rw [List.drop_set_of_lt (by omega), hd1]
      obtain ⟨ws, k, r1, r2, r3, r4⟩ := lp_del l b hl m (j + 1) (i + 1) (zs.set i l[j]) (by omega) (by omega) (by simp [hz]) hzs
      refine ⟨ws, k, ?_, r2, r3, ?_⟩
      · refine lp_del_keep realAr realAr_ok _ ((zs.set i l[j]).map attrA) l.length i j l[j].1 l[j].2.1 l[j].2.2 b (by simp [hz]) hg (nble hj) (Nat.zero_add _) (Nat.zero_add _) (nble (by omega)) ?_ zs[i].1 zs[i].2.1 zs[i].2.2 (attr_get hiz) (natlt_t hj) hq (natinc (by omega)) (natinc (by omega)) r1
        rw [lset_eq, List.map_set]
        rfl
      · rw [r4]
        simp only [if_true]
        rw [List.take_succ_eq_append_getElem (by simp; omega), List.take_set_of_le (by omega)]
        simp
    | false =>
      rw [hk] at hq
      obtain ⟨ws, k, r1, r2, r3, r4⟩ := lp_del l b hl m (j + 1) i zs (by omega) (by omega) hz hd1
      refine ⟨ws, k, ?_, r2, r3, ?_⟩
      · exact lp_del_drop realAr realAr_ok _ l.length i j l[j].1 l[j].2.1 l[j].2.2 b (by simp [hz]) hg (nble hj) (Nat.zero_add _) (natlt_t hj) hq (natinc (by omega)) r1
      · rw [r4]
        simp
theorem filter_split (b : Bool) : ∀ (l : List AttrT) (k : Nat), l.findIdx? (fun a => !(keepA b a)) = some k → k < l.length ∧ l.filter (keepA b) = l.take k ++ (l.drop (k + 1)).filter (keepA b)
  | [], k, h => by simp at h
  | a :: l, k, h => by
    rw [List.findIdx?_cons] at h
    cases hk : keepA b a with
    | false =>
      rw [hk] at h
      simp at h
      subst h
      simp [hk]
    | true =>
      rw [hk] at h
      simp only [Bool.not_true, Bool.false_eq_true, if_false, Option.map_eq_some_iff] at h
      obtain ⟨k', h1, rfl⟩ := h
      obtain ⟨q1, q2⟩ := filter_split b l k' h1
      refine ⟨by simp; omega, ?_⟩
      rw [List.filter_cons, hk]
      simp [q2]
theorem filter_none (b : Bool) : ∀ (l : List AttrT), l.findIdx? (fun a => !(keepA b a)) = none → l.filter (keepA b) = l := by
  intro l h
  rw [List.findIdx?_eq_none_iff] at h
  rw [List.filter_eq_self]
  intro a ha
  simpa using h a ha
theorem s_del (l : List AttrT) (b : Bool) (hl : l.length ≤ 1000000) : evl (envV realAr) (.call 105 [.sl 3 (l.map attrA) .full, .fn 107 [] [.ptr 0 0]] [[.s (.bool b)]]) = some (.ret (.sl 3 ((l.filter (keepA b)).map attrA) .full) [[.s (.bool b)]]) := by
  have h := lp_someI l b hl l.length 0 (by omega)
  rw [List.drop_zero] at h
  have e0 : (l.map attrA).length = l.length := by simp
  have e3 : lcut (l.map attrA) 0 l.length = l.map attrA := by
    rw [lcut, List.drop_zero, List.take_of_length_le (by rw [e0]; exact Nat.le_refl _)]
  cases hf : l.findIdx? (fun a => !(keepA b a)) with
  | none =>
    rw [hf] at h
    have h1 := eq_some_idx_none realAr realAr_ok _ l.length _ b e0 h
    rw [filter_none b l hf]
    exact eq_del_none realAr realAr_ok _ l.length b e0 (Nat.zero_add _) (nble (Nat.le_refl _)) e3 h1
  | some k =>
    rw [hf] at h
    simp only [Nat.zero_add] at h
    have h1 := eq_some_idx_some realAr realAr_ok _ l.length k b e0 h
    obtain ⟨hk, hfil⟩ := filter_split b l k hf
    obtain ⟨ws, j, r1, r2, r3, r4⟩ := lp_del l b hl (l.length - (k + 1)) (k + 1) k l (by omega) (by omega) rfl rfl
    rw [hfil, ← r4]
    refine eq_del_some realAr realAr_ok _ (ws.map attrA) _ ((ws.take j).map attrA ++ List.replicate (l.length - j) zeroA) l.length k j b (l.length - j) e0 (by simp [r2]) (Nat.zero_add _) (nble (Nat.le_refl _)) e3 (nble r3) rfl (Nat.zero_add _) (by omega) ?_ ?_ ?_ h1 ?_ (natinc (by omega)) r1
    · rw [List.drop_of_length_le (by simp [r2]), List.append_nil, List.map_take]
    · simp [r2]
      omega
    · rw [List.take_left' (by simp [r2]; omega)]
    · rw [realAr_ok.eq]
      simp
theorem s_attr_some (l : List AttrT) (p : Perm) (hp : p = .ro ∨ p = .imm) (b : Bool) (hl : l.length ≤ 1000000) : evl (envV realAr) (.call 92 [.sl 3 (l.map attrA) p, .s (.bool b)] []) = some (.ret (.sl 3 ((l.filter (keepA b)).map attrA) .full) []) :=
  eq_attr_some realAr realAr_ok _ _ l.length b p hp (by simp) (s_clone l p hp hl) (s_del l b hl) (l.filter (keepA b)).length (by simp) (by rw [List.take_of_length_le (by simp)]) (nble (Nat.le_refl _))
end Go.Va

/- The functions that the statement reaches, by equations: no statement of its own. -/
import Derived.Test.YtmklimlepgiffaaEq12
set_option linter.unusedVariables false
set_option linter.unusedSimpArgs false
set_option linter.unusedSectionVars false
namespace Go.Va
open Go.Proofs
set_option maxRecDepth 100000
set_option maxHeartbeats 4000000
theorem refSeg_iff (q : Nat) : ∀ O : Seg, refSeg q O = false ↔ ∀ o ∈ O, refObj.refObjL q o = false
  | [] => by simp [refSeg]
  | o :: O => by simp [refSeg, refSeg_iff q O]
namespace ArInt
abbrev isA (l : List (Int × Int)) : List AV := l.map fun p => .s (.int .i64 p.1)
abbrev msA (l : List (Int × Int)) : List AV := l.map fun p => .s (.int .i64 p.2)
abbrev DeedT := Int × Int × Int
abbrev xsA (x : DeedT) : List AV := [.s (.int .i64 x.1), .s (.int .i64 x.2.1), .s (.int .i64 x.2.2)]
def deedA (x : DeedT) : AV := .agg (xsA x)
structure Good (O : Seg) (j : Nat) (o : List AV) : Prop where
  len : O.length = Nat.succ j
  at_ : lget O j = some o
  no : ∀ q, refSeg q O = false
theorem s_Pick (w : Int) (h1 : -9223372036854775808 ≤ w) (h2 : w ≤ 9223372036854775807) : ∃ q : Int, (q = 0 ∨ q = 1 ∨ q = 2 ∨ q = 3 ∨ q = 4 ∨ q = 5 ∨ q = 6 ∨ q = 7) ∧ evl (envV realAr) (.call 35 [.s (.int .i64 w), .s (.int .i64 8)] []) = some (.ret (.s (.int .i64 q)) []) := by
  have key : ∀ z : Int, 0 ≤ z → (z.tmod 8 = 0 ∨ z.tmod 8 = 1 ∨ z.tmod 8 = 2 ∨ z.tmod 8 = 3 ∨ z.tmod 8 = 4 ∨ z.tmod 8 = 5 ∨ z.tmod 8 = 6 ∨ z.tmod 8 = 7) := by
    intro z hz
    have a := Int.tmod_nonneg 8 hz
    have b := Int.tmod_lt_of_pos z (show (0 : Int) < 8 by omega)
    omega
  by_cases h : w < 0
  · exact ⟨(0 - (w + 1)).tmod 8, key _ (by omega), eq_Pick_n realAr realAr_ok w (w + 1) (0 - (w + 1)) _ (hlt_t h) (hadd (by omega) (by omega)) (hsub (by omega) (by omega)) rfl⟩
  · exact ⟨w.tmod 8, key _ (by omega), eq_Pick_p realAr realAr_ok w _ (hlt_f (by omega)) rfl⟩
/-- where an identity is, in the law's list -/
def atI (d : Int) (l : List (Int × Int)) : Option Nat := l.findIdx? (fun p => decide (p.1 = d))
theorem find_loop (room : Int) (ds : List AV) (ms : List AV) (nx : Int) (P : Seg) (j i : Nat) (x : DeedT) (l : List (Int × Int)) (hl : l.length ≤ 1000000) (hk : (l.map Prod.fst).Nodup) (hP : lget P (Nat.succ j) = some (xsA x)) (hPl : P.length = Nat.succ (Nat.succ j)) : ∀ (m k : Nat) (at_ : Int), m + k = l.length →
    lpOf (envV realAr) 7 bd7 16 (stF room ds (isA l) ms nx P j i at_ k) = some (.code (.exit 2) (stFe room ds (isA l) ms nx P j i (match atI x.2.1 (l.drop k) with | some p => .ofNat (k + p) | none => at_) l.length))
  | 0, k, at_, h => by
    have : k = l.length := by omega
    subst this
    rw [List.drop_length]
    exact lp_apFe realAr realAr_ok ds _ ms l.length i j _ room nx at_ P (mlen _ _) hPl (hbeq _) (hbne (by omega)) (hbne (by omega)) (hbne (by omega)) (hbeq _) (hbne (by omega)) (hbne (by omega)) (hbne (by omega)) (hbeq _) (nlt_f (Nat.le_refl _))
  | m + 1, k, at_, h => by
    have hkl : k < l.length := by omega
    have hn := find_loop room ds ms nx P j i x l hl hk hP hPl m (k + 1) (bif realAr.eq l[k].1 x.2.1 then .ofNat k else at_) (by omega)
    have := lp_apF realAr realAr_ok ds (isA l) ms l.length i j k room x.2.1 l[k].1 nx at_ x.1 x.2.2 P (mlen _ _) (mget _ _ hkl) (hble hkl) (Nat.zero_add _) hP hPl (hbeq _) (hbne (by omega)) (hbne (by omega)) (hbne (by omega)) (hbeq _) (hbne (by omega)) (hbne (by omega)) (hbne (by omega)) (hbeq _) (nlt_t hkl) (ninc (by omega)) hn
    rw [this]
    refine congrArg (fun z => some (Res.code (Ex.exit 2) (stFe room ds (isA l) ms nx P j i z l.length))) ?_
    rw [List.drop_eq_getElem_cons hkl]
    unfold atI
    rw [List.findIdx?_cons, heq]
    by_cases q : l[k].1 = x.2.1
    · simp only [q, decide_true, if_true, cond_true]
      have : (l.drop (k + 1)).findIdx? (fun p => decide (p.1 = x.2.1)) = none := by
        rw [List.findIdx?_eq_none_iff]
        intro p hp
        have h2 : (l.map Prod.fst).drop k = l[k].1 :: (l.drop (k + 1)).map Prod.fst := by rw [← List.map_drop, List.drop_eq_getElem_cons hkl]; rfl
        have h3 : ((l.map Prod.fst).drop k).Nodup := hk.sublist (List.drop_sublist _ _)
        rw [h2, List.nodup_cons] at h3
        have : p.1 ≠ x.2.1 := fun e => h3.1 (List.mem_map.2 ⟨p, hp, by rw [e, q]⟩)
        simp [this]
      rw [this]
      rfl
    · simp only [q, decide_false, cond_false, Bool.false_eq_true, if_false]
      cases (l.drop (k + 1)).findIdx? (fun p => decide (p.1 = x.2.1)) with
      | none => rfl
      | some p =>
        simp only [Option.map_some]
        rw [show k + 1 + p = k + (p + 1) by omega]
theorem chk_loop (room : Int) (ds : List AV) (nx : Int) (O : Seg) (j i : Nat) {s : AS X} {l : List (Int × Int)} (h : ArRel s l) (hb : s.last ≤ 100000) (g : Good O j (obj s room)) : ∀ (m k : Nat), m + k = l.length →
    lpOf (envV realAr) 7 bd7 54 (stC room ds (isA l) (msA l) nx O j i k) = some (.code (.exit 5) (stCe room ds (isA l) (msA l) nx O j i l.length))
  | 0, k, hk => by
    have : k = l.length := by omega
    subst this
    exact lp_apCe realAr realAr_ok ds _ _ l.length i j _ room nx O (mlen _ _) g.len (hbeq _) (hbne (by omega)) (hbne (by omega)) (hbne (by omega)) (hbeq _) (hbne (by omega)) (hbne (by omega)) (hbne (by omega)) (hbeq _) (nlt_f (Nat.le_refl _))
  | m + 1, k, hk => by
    have hkl : k < l.length := by omega
    have h1 := h.cnt
    have h2 := h.len
    have hg := s_Get room h (by omega) l[k].1
    rw [get_rel h, find_key h.keys (show (l[k].1, l[k].2) ∈ l from List.getElem_mem hkl)] at hg
    exact lp_apC realAr realAr_ok (s.ss.map slotA) (s.fs.map freeA) ds (isA l) (msA l) l.length i j k room l[k].1 _ nx l[k].2 O (mlen _ _) (mget _ _ hkl) (hble hkl) (Nat.zero_add _) g.at_ g.len (List.append_nil _) (hbeq _) (hbne (by omega)) (hbne (by omega)) (hbne (by omega)) (hbeq _) (hbne (by omega)) (hbne (by omega)) (hbne (by omega)) (hbeq _) (mlen _ _) (mget _ _ hkl) (nlt_t hkl) (ninc (by omega)) (heq_t rfl) hg (chk_loop room ds nx O j i h hb g m (k + 1) (by omega))
theorem obj_no (s : AS X) (room : Int) (q : Nat) : refObj.refObjL q (obj s room) = false := rfl
theorem xs_no (x : DeedT) (q : Nat) : refObj.refObjL q (xsA x) = false := rfl
section
variable {O : Seg} {j : Nat} {o : List AV} (g : Good O j o)
include g
theorem good_lt : j < O.length := by rw [g.len]; exact Nat.lt_succ_self _
theorem good_P (x : List AV) : (O ++ [x]).length = Nat.succ (Nat.succ j) ∧ lget (O ++ [x]) (Nat.succ j) = some x ∧ lget (O ++ [x]) j = some o := by
  have h := g.len
  have h2 := g.at_
  rw [lget_eq] at h2
  refine ⟨by simp [h], ?_, ?_⟩
  · rw [lget_eq, ← h]; simp
  · rw [lget_eq, List.getElem?_append_left (good_lt g)]; exact h2
theorem good_set {o2 : List AV} (ho : ∀ q, refObj.refObjL q o2 = false) : Good (lset O j o2) j o2 := by
  have h := g.len
  refine ⟨by rw [lset_eq]; simp [h], by rw [lset_eq, lget_eq]; simp [good_lt g], fun q => ?_⟩
  rw [refSeg_iff]
  intro p hp
  rw [lset_eq] at hp
  rcases List.mem_or_eq_of_mem_set hp with k | k
  · exact (refSeg_iff q O).1 (g.no q) p k
  · rw [k]; exact ho q
theorem set_P (x o2 : List AV) : lset (O ++ [x]) j o2 = lset O j o2 ++ [x] := by rw [lset_eq, lset_eq, List.set_append_left _ _ (good_lt g)]
theorem set_same : lset O j o = O := by
  have h2 := g.at_
  rw [lget_eq, List.getElem?_eq_getElem (good_lt g)] at h2
  injection h2 with h2
  rw [lset_eq, ← h2, List.set_getElem_self]
end
noncomputable def P11 (room : Int) (ds : List AV) (l : List (Int × Int)) (nx : Int) (O : Seg) (j i : Nat) : Option Res := lpOf (envV realAr) 7 bd7 11 (stL room ds (isA l) (msA l) nx O j i)
theorem put_last (s : AS X) (x : X) : (s.put x).last = s.last + 1 := by
  unfold AS.put
  cases s.fs.getLast? <;> rfl
theorem zip_set {l : List (Int × Int)} {p : Nat} {d y x : Int} (hk : (l.map Prod.fst).Nodup) (h : l[p]? = some (d, y)) : (l.map fun q => if q.1 = d then (d, x) else q) = l.set p (d, x) := by
  apply List.ext_getElem?
  intro i
  rw [List.getElem?_map, List.getElem?_set]
  have hpl := lt_of_get h
  by_cases e : p = i
  · subst e
    rw [if_pos rfl, if_pos hpl, h]
    simp
  · rw [if_neg e]
    cases hi : l[i]? with
    | none => rfl
    | some q =>
      have hil := lt_of_get hi
      have : q.1 ≠ d := by
        intro e2
        have h1 : (l.map Prod.fst)[p]'(by simpa using hpl) = (l.map Prod.fst)[i]'(by simpa using hil) := by
          rw [List.getElem?_eq_getElem hpl] at h
          rw [List.getElem?_eq_getElem hil] at hi
          injection h with h
          injection hi with hi
          simp [h, hi, e2]
        have hpw := List.pairwise_iff_getElem.1 hk
        rcases Nat.lt_or_gt_of_ne e with k | k
        · exact hpw p i (by simpa using hpl) (by simpa using hil) k h1
        · exact hpw i p (by simpa using hil) (by simpa using hpl) k h1.symm
      simp [this]
theorem zip_drop {l : List (Int × Int)} {p : Nat} {d : Int} (hk : (l.map Prod.fst).Nodup) (h : atI d l = some p) : (l.filter fun q => decide (q.1 ≠ d)) = l.take p ++ l.drop (p + 1) := by
  unfold atI at h
  rw [List.findIdx?_eq_some_iff_getElem] at h
  obtain ⟨hp, h1, h2⟩ := h
  simp at h1
  have e : l = l.take p ++ l[p] :: l.drop (p + 1) := by rw [← List.drop_eq_getElem_cons hp, List.take_append_drop]
  have hn := hk
  rw [e, List.map_append, List.map_cons, List.nodup_append, List.nodup_cons] at hn
  obtain ⟨n1, ⟨n2, n3⟩, n4⟩ := hn
  conv => lhs; rw [e]
  rw [List.filter_append, List.filter_cons]
  simp only [h1, ne_eq, not_true_eq_false, decide_false, Bool.false_eq_true, if_false]
  congr 1
  · rw [List.filter_eq_self]
    intro a ha
    have := n4 a.1 (List.mem_map.2 ⟨a, ha, rfl⟩) l[p].1 (by simp)
    rw [h1] at this
    simp [this]
  · rw [List.filter_eq_self]
    intro a ha
    have : a.1 ≠ d := fun e2 => n2 (List.mem_map.2 ⟨a, ha, by rw [e2, h1]⟩)
    simp [this]
theorem at_eq {s : AS X} {l : List (Int × Int)} (h : ArRel s l) (d : Int) : (atL d s.ss).isSome = (atI d l).isSome := by
  rw [at_iff h]
  unfold atI
  rw [List.findIdx?_isSome]
  cases hf : l.find? (fun p => decide (p.1 = d)) with
  | none =>
    rw [List.find?_eq_none] at hf
    symm
    rw [Option.isSome_none, List.any_eq_false]
    exact hf
  | some x =>
    have := List.find?_some hf
    have hm := List.mem_of_find?_eq_some hf
    symm
    rw [Option.isSome_some, List.any_eq_true]
    exact ⟨x, hm, this⟩
theorem step (room : Int) (ds : List DeedT) (hd : ds.length ≤ 120) (hw : ∀ x ∈ ds, -9223372036854775808 ≤ x.1 ∧ x.1 ≤ 9223372036854775807) (i : Nat) (hi : i < ds.length) {s : AS X} {l : List (Int × Int)} (h : ArRel s l) (hs : s.last ≤ i) (hr : (l.length : Int) ≤ room) {O : Seg} {j : Nat} (g : Good O j (obj s room)) :
    ∃ (s2 : AS X) (l2 : List (Int × Int)) (j2 : Nat) (O2 : Seg), ArRel s2 l2 ∧ s2.last ≤ i + 1 ∧ (l2.length : Int) ≤ room ∧ Good O2 j2 (obj s2 room) ∧
      P11 room (ds.map deedA) l (.ofNat (s.last + 1)) O j i = P11 room (ds.map deedA) l2 (.ofNat (s2.last + 1)) O2 j2 (i + 1) := by
  obtain ⟨q, hq, hp⟩ := s_Pick ds[i].1 (hw _ (List.getElem_mem hi)).1 (hw _ (List.getElem_mem hi)).2
  generalize hx : ds[i] = x at hp
  obtain ⟨p1, p2, p3⟩ := good_P g (xsA x)
  have hcnt := h.cnt
  have hlen := h.len
  have hF := find_loop room (ds.map deedA) (msA l) (.ofNat (s.last + 1)) (O ++ [xsA x]) j i x l (by omega) h.keys p2 p1 l.length 0 (-1) (by omega)
  rw [List.drop_zero] at hF
  simp only [Nat.zero_add] at hF
  have hget : lget (ds.map deedA) i = some (deedA x) := by rw [mget _ _ hi, hx]
  have hae := at_eq h x.2.1
  have tl : ∀ {s2 : AS X} {l2 : List (Int × Int)} (h2 : ArRel s2 l2) (hs2 : s2.last ≤ i + 1) {O2 : Seg} {j2 : Nat} (g2 : Good O2 j2 (obj s2 room)), _ := fun {s2} {l2} h2 hs2 {O2} {j2} g2 =>
    And.intro (s_Live room h2 (by omega)) (And.intro (s_Next room (s := s2) (by omega)) (And.intro (s_Room room (s := s2)) (chk_loop room (ds.map deedA) (.ofNat (s2.last + 1)) O2 j2 i h2 (by omega) g2 l2.length 0 (by omega))))
  have put : (q = 0 ∨ q = 1 ∨ q = 2 ∨ q = 3) → ∃ (s2 : AS X) (l2 : List (Int × Int)) (j2 : Nat) (O2 : Seg), ArRel s2 l2 ∧ s2.last ≤ i + 1 ∧ (l2.length : Int) ≤ room ∧ Good O2 j2 (obj s2 room) ∧
      P11 room (ds.map deedA) l (.ofNat (s.last + 1)) O j i = P11 room (ds.map deedA) l2 (.ofNat (s2.last + 1)) O2 j2 (i + 1) := by
    intro hq
    by_cases hf : (l.length : Int) < room
    · have h2 := put_rel h x.2.2
      have hl2 := put_last s x.2.2
      have g2 := good_set g (obj_no (s.put x.2.2) room)
      obtain ⟨t1, t2, t3, t4⟩ := tl h2 (by omega) g2
      refine ⟨s.put x.2.2, _, j, _, h2, by omega, by simp; omega, g2, ?_⟩
      obtain ⟨a1, a2, a3⟩ := good_P g2 (xsA x)
      have e1 : (l ++ [(((s.last + 1 : Nat) : Int), x.2.2)]).length = Nat.succ l.length := by simp
      unfold P11
      rw [hl2] at t2 t4 ⊢
      rw [e1] at t1 t4
      have hpq := s_Put room h (by omega) x.2.2 hf
      unfold obj at hpq
      rw [hl2] at hpq
      unfold view at t1 t2 t3
      rw [hl2] at t1 t2 t3
      have eo : obj (s.put x.2.2) room = arO ((s.put x.2.2).ss.map slotA) ((s.put x.2.2).fs.map freeA) room (.ofNat (s.last + 1)) := by unfold obj; rw [hl2]
      rw [eo] at a1 a2 a3 t4 g2 ⊢
      exact lp_ap_putA realAr realAr_ok _ _ _ _ (ds.map deedA) (isA l) (msA l) _ _ ds.length l.length i j room _ (.ofNat (s.last + 1)) x.2.1 _ (.ofNat (s.last + 1)) _ _ x.1 x.2.2 q O _ _ _ (mlen _ _) hget (hble hi) (nlt_t hi) (ninc (by omega)) g.len rfl p1 p2 p3 (List.append_nil _) (mlen _ _) (mlen _ _) (Nat.zero_add _) (hble (Nat.le_refl _)) hp hF hpq (hle_f hf) (heq_t rfl) (ninc (by omega))
        (set_P g _ _) (List.append_nil _) a1 a2 a3 (List.dropLast_concat) (g2.no _) (mcut0 _ _ rfl) (mcut0 _ _ rfl) (by simp) (by simp) (hfit (by omega)) (hfit (by rw [Nat.succ_eq_add_one]; omega)) (hbeq _)
        g2.len g2.at_ (List.append_nil _) (by simp) t1 t2 t3 (heq_t rfl) (heq_t rfl) (heq_t rfl) t4 rfl (hbeq _) (hbne (by omega)) (hbne (by omega)) (hbne (by omega)) (hbne (by omega)) (hbeq _) (hbne (by omega)) (hbne (by omega)) (hbne (by omega)) (hbne (by omega)) (hbeq _) (hbne (by omega)) (hbne (by omega)) (hbne (by omega)) (hbne (by omega)) (hbeq _) hq
    · obtain ⟨t1, t2, t3, t4⟩ := tl h (by omega) g
      refine ⟨s, l, j, O, h, by omega, hr, g, ?_⟩
      have hpq := s_Put_full room h (by omega) x.2.2 (by omega)
      exact lp_ap_putB realAr realAr_ok _ _ (ds.map deedA) (isA l) (msA l) ds.length l.length i j room x.2.1 _ _ _ x.1 x.2.2 q O _ _ _ (mlen _ _) hget (hble hi) (nlt_t hi) (ninc (by omega)) g.len rfl p1 p2 p3 (List.append_nil _) (mlen _ _) (mlen _ _) (Nat.zero_add _) (hble (Nat.le_refl _)) hp hF hpq (hle_t (show room ≤ (l.length : Int) by omega)) (s_Code _ 6 (.inr ⟨rfl, rfl⟩))
        (by rw [set_P g]; exact congrArg (· ++ [xsA x]) (set_same g)) (List.append_nil _) p1 p2 p3 (List.dropLast_concat) (g.no _)
        g.len g.at_ (List.append_nil _) (mlen _ _) t1 t2 t3 (heq_t rfl) (heq_t rfl) (heq_t rfl) t4 rfl (hbeq _) (hbne (by omega)) (hbne (by omega)) (hbne (by omega)) (hbne (by omega)) (hbeq _) (hbne (by omega)) (hbne (by omega)) (hbne (by omega)) (hbne (by omega)) (hbeq _) (hbne (by omega)) (hbne (by omega)) (hbne (by omega)) (hbne (by omega)) (hbeq _) hq
  have drop : (q = 4 ∨ q = 5) → ∃ (s2 : AS X) (l2 : List (Int × Int)) (j2 : Nat) (O2 : Seg), ArRel s2 l2 ∧ s2.last ≤ i + 1 ∧ (l2.length : Int) ≤ room ∧ Good O2 j2 (obj s2 room) ∧
      P11 room (ds.map deedA) l (.ofNat (s.last + 1)) O j i = P11 room (ds.map deedA) l2 (.ofNat (s2.last + 1)) O2 j2 (i + 1) := by
    intro hq
    have hdr := s_Drop room h (by omega) x.2.1
    cases ha : atL x.2.1 s.ss with
    | none =>
      rw [ha] at hdr hae
      have hai : atI x.2.1 l = none := by
        cases q : atI x.2.1 l with
        | none => rfl
        | some p => rw [q] at hae; cases hae
      rw [hai] at hF
      obtain ⟨t1, t2, t3, t4⟩ := tl h (by omega) g
      refine ⟨s, l, j, O, h, by omega, hr, g, ?_⟩
      exact lp_ap_dropN realAr realAr_ok _ _ (ds.map deedA) (isA l) (msA l) ds.length l.length i j room x.2.1 _ _ x.1 x.2.2 q O _ _ _ (mlen _ _) hget (hble hi) (nlt_t hi) (ninc (by omega)) g.len rfl p1 p2 p3 (List.append_nil _) (mlen _ _) (mlen _ _) (Nat.zero_add _) (hble (Nat.le_refl _)) hp hF rfl hdr
        (by rw [set_P g]; exact congrArg (· ++ [xsA x]) (set_same g)) (List.append_nil _) p1 p2 p3 (List.dropLast_concat) (g.no _)
        g.len g.at_ (List.append_nil _) (mlen _ _) t1 t2 t3 (heq_t rfl) (heq_t rfl) (heq_t rfl) t4 rfl (hbeq _) (hbne (by omega)) (hbne (by omega)) (hbne (by omega)) (hbne (by omega)) (hbeq _) (hbne (by omega)) (hbne (by omega)) (hbne (by omega)) (hbne (by omega)) (hbeq _) (hbne (by omega)) (hbne (by omega)) (hbne (by omega)) (hbne (by omega)) (hbeq _) hq
    | some k =>
      rw [ha] at hdr hae
      obtain ⟨p, hai⟩ := Option.isSome_iff_exists.1 hae.symm
      rw [hai] at hF
      obtain ⟨k1, y, k2⟩ := at_some ha
      have h2 := drop_rel h k2 k1 zx
      have hai' := hai
      rw [zip_drop h.keys hai] at h2
      unfold atI at hai'
      rw [List.findIdx?_eq_some_iff_getElem] at hai'
      obtain ⟨hpl, -, -⟩ := hai'
      have hm2 : (l.take p ++ l.drop (p + 1)).length = l.length - 1 := by simp; omega
      have g2 := good_set g (obj_no (s.drop k zx) room)
      obtain ⟨t1, t2, t3, t4⟩ := tl h2 (show s.last ≤ i + 1 by omega) g2
      obtain ⟨a1, a2, a3⟩ := good_P g2 (xsA x)
      refine ⟨s.drop k zx, _, j, _, h2, show s.last ≤ i + 1 by omega, by rw [hm2]; omega, g2, ?_⟩
      rw [hm2] at t1 t4
      exact lp_ap_dropY realAr realAr_ok _ _ _ _ (ds.map deedA) (isA l) (msA l) _ _ (isA (l.take p)) (isA (l.drop (p + 1))) (msA (l.take p)) (msA (l.drop (p + 1))) ds.length l.length (l.length - 1) i j (l.length - Nat.succ p) p room _ x.2.1 _ _ x.1 x.2.2 q O _ _ _ (mlen _ _) hget (hble hi) (nlt_t hi) (ninc (by omega)) g.len rfl p1 p2 p3 (List.append_nil _) (mlen _ _) (mlen _ _) (Nat.zero_add _) (hble (Nat.le_refl _)) hp hF hdr
        (hble (by omega)) (Nat.zero_add _) (hble hpl) (Nat.zero_add _) (by rw [mcut, List.drop_zero]) rfl (by rw [mcut, List.take_of_length_le (by simp)]) (by simp) (by rw [mcut, List.drop_zero]) (by rw [mcut, List.take_of_length_le (by simp)]) (by simp) (hble (by omega))
        (by simp; omega) (by simp; omega) (by simp) (by simp) (hfit (by omega)) (by omega) (hfit (by omega)) (hle_t (by simp)) (ninc (by omega)) (hbeq _)
        (set_P g _ _) (List.append_nil _) a1 a2 a3 (List.dropLast_concat) (g2.no _)
        g2.len g2.at_ (List.append_nil _) (by rw [List.length_map]; exact hm2) t1 t2 t3 (heq_t rfl) (heq_t rfl) (heq_t rfl) t4 rfl (hbeq _) (hbne (by omega)) (hbne (by omega)) (hbne (by omega)) (hbne (by omega)) (hbeq _) (hbne (by omega)) (hbne (by omega)) (hbne (by omega)) (hbne (by omega)) (hbeq _) (hbne (by omega)) (hbne (by omega)) (hbne (by omega)) (hbne (by omega)) (hbeq _) hq
  have set_ : q = 6 → ∃ (s2 : AS X) (l2 : List (Int × Int)) (j2 : Nat) (O2 : Seg), ArRel s2 l2 ∧ s2.last ≤ i + 1 ∧ (l2.length : Int) ≤ room ∧ Good O2 j2 (obj s2 room) ∧
      P11 room (ds.map deedA) l (.ofNat (s.last + 1)) O j i = P11 room (ds.map deedA) l2 (.ofNat (s2.last + 1)) O2 j2 (i + 1) := by
    intro hq
    have hdr := s_Set room h (by omega) x.2.1 x.2.2
    cases ha : atL x.2.1 s.ss with
    | none =>
      rw [ha] at hdr hae
      have hai : atI x.2.1 l = none := by
        cases q : atI x.2.1 l with
        | none => rfl
        | some p => rw [q] at hae; cases hae
      rw [hai] at hF
      obtain ⟨t1, t2, t3, t4⟩ := tl h (by omega) g
      refine ⟨s, l, j, O, h, by omega, hr, g, ?_⟩
      exact lp_ap_setN realAr realAr_ok _ _ (ds.map deedA) (isA l) (msA l) ds.length l.length i j room x.2.1 _ _ x.1 x.2.2 q O _ _ _ (mlen _ _) hget (hble hi) (nlt_t hi) (ninc (by omega)) g.len rfl p1 p2 p3 (List.append_nil _) (mlen _ _) (mlen _ _) (Nat.zero_add _) (hble (Nat.le_refl _)) hp hF rfl hdr
        (by rw [set_P g]; exact congrArg (· ++ [xsA x]) (set_same g)) (List.append_nil _) p1 p2 p3 (List.dropLast_concat) (g.no _)
        g.len g.at_ (List.append_nil _) (mlen _ _) t1 t2 t3 (heq_t rfl) (heq_t rfl) (heq_t rfl) t4 rfl (hbeq _) (hbne (by omega)) (hbne (by omega)) (hbne (by omega)) (hbne (by omega)) (hbeq _) (hbne (by omega)) (hbne (by omega)) (hbne (by omega)) (hbne (by omega)) (hbeq _) (hbne (by omega)) (hbne (by omega)) (hbne (by omega)) (hbne (by omega)) (hbeq _) hq
    | some k =>
      rw [ha] at hdr hae
      obtain ⟨p, hai⟩ := Option.isSome_iff_exists.1 hae.symm
      rw [hai] at hF
      obtain ⟨k1, y0, k2⟩ := at_some ha
      have h2 := set_rel h k2 k1 x.2.2
      have hai' := hai
      unfold atI at hai'
      rw [List.findIdx?_eq_some_iff_getElem] at hai'
      obtain ⟨hpl, hpd, -⟩ := hai'
      simp at hpd
      have hlp : l[p]? = some (x.2.1, l[p].2) := by rw [List.getElem?_eq_getElem hpl, ← hpd]
      rw [zip_set h.keys hlp] at h2
      have eis : isA (l.set p (x.2.1, x.2.2)) = isA l := by
        unfold isA
        rw [List.map_set]
        apply List.ext_getElem?
        intro i
        rw [List.getElem?_set]
        by_cases e : p = i
        · subst e
          simp [hpl, hpd]
        · rw [if_neg e]
      have g2 := good_set g (obj_no (s.set k x.2.1 x.2.2) room)
      obtain ⟨t1, t2, t3, t4⟩ := tl h2 (show s.last ≤ i + 1 by omega) g2
      obtain ⟨a1, a2, a3⟩ := good_P g2 (xsA x)
      refine ⟨s.set k x.2.1 x.2.2, _, j, _, h2, show s.last ≤ i + 1 by omega, by simpa using hr, g2, ?_⟩
      rw [List.length_set] at t1 t4
      unfold P11
      rw [eis] at t4 ⊢
      exact lp_ap_setY realAr realAr_ok _ _ _ _ (ds.map deedA) (isA l) (msA l) _ ds.length l.length i j p room _ x.2.1 _ _ x.1 x.2.2 l[p].2 q O _ _ _ (mlen _ _) hget (hble hi) (nlt_t hi) (ninc (by omega)) g.len rfl p1 p2 p3 (List.append_nil _) (mlen _ _) (mlen _ _) (Nat.zero_add _) (hble (Nat.le_refl _)) hp hF hdr
        (hle_t (by simp)) (hble hpl) (Nat.zero_add _) (mget _ _ hpl) (mset (fun p : Int × Int => intA p.2) l p (x.2.1, x.2.2)) (by simp)
        (set_P g _ _) (List.append_nil _) a1 a2 a3 (List.dropLast_concat) (g2.no _)
        g2.len g2.at_ (List.append_nil _) (mlen _ _) t1 t2 t3 (heq_t rfl) (heq_t rfl) (heq_t rfl) t4 rfl (hbeq _) (hbne (by omega)) (hbne (by omega)) (hbne (by omega)) (hbne (by omega)) (hbeq _) (hbne (by omega)) (hbne (by omega)) (hbne (by omega)) (hbne (by omega)) (hbeq _) (hbne (by omega)) (hbne (by omega)) (hbne (by omega)) (hbne (by omega)) (hbeq _) hq
  have clone : q = 7 → ∃ (s2 : AS X) (l2 : List (Int × Int)) (j2 : Nat) (O2 : Seg), ArRel s2 l2 ∧ s2.last ≤ i + 1 ∧ (l2.length : Int) ≤ room ∧ Good O2 j2 (obj s2 room) ∧
      P11 room (ds.map deedA) l (.ofNat (s.last + 1)) O j i = P11 room (ds.map deedA) l2 (.ofNat (s2.last + 1)) O2 j2 (i + 1) := by
    intro hq
    have hc := s_Clone room h (by omega)
    have hpq : ∃ (s3 : AS X) (id : Int) (ev : AV), (ev = .s .nilIface ∨ ev = .s (.iface 45 (.int .i64 6))) ∧ evl (envV realAr) (.call 36 [.ptr 0 0, av 77] [obj s room]) = some (.ret (.tup [.s (.int .i64 id), ev]) [obj s3 room]) := by
      by_cases hf : (l.length : Int) < room
      · exact ⟨_, _, _, .inl rfl, s_Put room h (by omega) 77 hf⟩
      · exact ⟨_, _, _, .inr rfl, s_Put_full room h (by omega) 77 (by omega)⟩
    obtain ⟨s3, id, ev, hev, hpq⟩ := hpq
    have hc1 : ((O ++ [xsA x]) ++ [obj s room]).length = Nat.succ (Nat.succ (Nat.succ j)) := by rw [List.length_append, p1]; rfl
    have hc2 : lget ((O ++ [xsA x]) ++ [obj s room]) j = some (obj s room) := by
      have h2 := p3
      rw [lget_eq] at h2 ⊢
      rw [List.getElem?_append_left (by rw [p1]; omega)]
      exact h2
    have g2 : Good (lset ((O ++ [xsA x]) ++ [obj s room]) j (obj s3 room)) (Nat.succ (Nat.succ j)) (obj s room) := by
      refine ⟨by rw [lset_eq, List.length_set, hc1], ?_, fun q => ?_⟩
      · rw [lset_eq, lget_eq, List.getElem?_set_ne (by omega), ← p1]
        simp
      · rw [refSeg_iff, lset_eq]
        intro p hp
        rcases List.mem_or_eq_of_mem_set hp with k | k
        · rcases List.mem_append.1 k with k | k
          · rcases List.mem_append.1 k with k | k
            · exact (refSeg_iff q O).1 (g.no q) p k
            · simp at k
              rw [k]
              exact xs_no x q
          · simp at k
            rw [k]
            exact obj_no s room q
        · rw [k]
          exact obj_no s3 room q
    obtain ⟨t1, t2, t3, t4⟩ := tl h (by omega) g2
    refine ⟨s, l, _, _, h, by omega, hr, g2, ?_⟩
    exact lp_ap_clone realAr realAr_ok _ _ _ _ (ds.map deedA) (isA l) (msA l) ds.length l.length i j room _ id x.2.1 _ _ _ x.1 x.2.2 q O _ _ _ ev hev (mlen _ _) hget (hble hi) (nlt_t hi) (ninc (by omega)) g.len rfl p1 p2 p3 (List.append_nil _) (mlen _ _) (mlen _ _) (Nat.zero_add _) (hble (Nat.le_refl _)) hp hF hc hpq
      (by rw [set_P g]; exact congrArg (· ++ [xsA x]) (set_same g)) rfl hc1 hc2 rfl
      g2.len g2.at_ (List.append_nil _) (mlen _ _) t1 t2 t3 (heq_t rfl) (heq_t rfl) (heq_t rfl) t4 rfl (hbeq _) (hbne (by omega)) (hbne (by omega)) (hbne (by omega)) (hbne (by omega)) (hbeq _) (hbne (by omega)) (hbne (by omega)) (hbne (by omega)) (hbne (by omega)) (hbeq _) (hbne (by omega)) (hbne (by omega)) (hbne (by omega)) (hbne (by omega)) (hbeq _) hq
  rcases hq with hq | hq | hq | hq | hq | hq | hq | hq
  · exact put (.inl hq)
  · exact put (.inr (.inl hq))
  · exact put (.inr (.inr (.inl hq)))
  · exact put (.inr (.inr (.inr hq)))
  · exact drop (.inl hq)
  · exact drop (.inr hq)
  · exact set_ hq
  · exact clone hq
theorem out_all (room : Int) (ds : List DeedT) (hd : ds.length ≤ 120) (hw : ∀ x ∈ ds, -9223372036854775808 ≤ x.1 ∧ x.1 ≤ 9223372036854775807) : ∀ (m i : Nat) (s : AS X) (l : List (Int × Int)) (j : Nat) (O : Seg), m + i = ds.length → ArRel s l → s.last ≤ i → (l.length : Int) ≤ room → Good O j (obj s room) →
    ∃ (s2 : AS X) (l2 : List (Int × Int)) (j2 : Nat) (O2 : Seg), P11 room (ds.map deedA) l (.ofNat (s.last + 1)) O j i = some (.code (.exit 0) (stLe room (ds.map deedA) (isA l2) (msA l2) (.ofNat (s2.last + 1)) O2 j2 ds.length)) ∧ ArRel s2 l2 ∧ s2.last ≤ 1000 ∧ Good O2 j2 (obj s2 room)
  | 0, i, s, l, j, O, hi, h, hs, hr, g => by
    have : i = ds.length := by omega
    subst this
    exact ⟨s, l, j, O, lp_apLe realAr realAr_ok _ _ _ ds.length ds.length j room _ O (mlen _ _) g.len (hbeq _) (hbne (by omega)) (hbne (by omega)) (hbne (by omega)) (hbeq _) (hbne (by omega)) (hbne (by omega)) (hbne (by omega)) (hbeq _) (nlt_f (Nat.le_refl _)), h, by omega, g⟩
  | m + 1, i, s, l, j, O, hi, h, hs, hr, g => by
    obtain ⟨s2, l2, j2, O2, h2, h3, h4, g2, e⟩ := step room ds hd hw i (by omega) h hs hr g
    rw [e]
    exact out_all room ds hd hw m (i + 1) s2 l2 j2 O2 (by omega) h2 h3 h4 g2
theorem arenaPlays_law (room : Int) (ds : List DeedT) (hw : ∀ x ∈ ds, -9223372036854775808 ≤ x.1 ∧ x.1 ≤ 9223372036854775807) : evl (envV realAr) (.call 7 [.s (.int .i64 room), .sl 3 (ds.map deedA) .imm] []) = some (.ret (.s (.bool true)) []) := by
  by_cases h1 : room < 1 ∨ 200 < room
  · refine eq_ap_no realAr realAr_ok _ room s_law04_up (s_New_no room h1) ?_
    rw [hlt, hlt]
    rcases h1 with h | h <;> simp [h]
  · have hn := s_New room (by omega) (by omega)
    by_cases h2 : 120 < ds.length
    · exact eq_ap_many realAr realAr_ok _ ds.length room s_law04_up hn (hlt_f (by omega)) (hlt_f (by omega)) (mlen _ _) (hlt_t (by simp; omega))
    · obtain ⟨s2, l2, j2, O2, r1, r2, r3, r4⟩ := out_all room ds (by omega) hw ds.length 0 ⟨[], [], 0⟩ [] 0 [obj ⟨[], [], 0⟩ room] (by omega) new_rel (Nat.zero_le _) (by simp; omega) ⟨rfl, rfl, fun q => rfl⟩
      have g1 := s_Get room r2 (by omega) (.ofNat (s2.last + 1))
      have g2 := s_Get room r2 (by omega) 0
      rw [get_rel r2, find_none (fun p hp => by have := (r2.pos p hp).2; show p.1 ≠ ((s2.last + 1 : Nat) : Int); omega)] at g1
      rw [get_rel r2, find_none (fun p hp => by have := (r2.pos p hp).1; omega)] at g2
      exact eq_ap realAr realAr_ok _ _ _ _ _ ds.length j2 room _ _ O2 s_law04_up hn (hlt_f (by omega)) (hlt_f (by omega)) (mlen _ _) (hlt_f (by simp; omega)) r1 r4.at_ r4.len (List.append_nil _) (hbeq _) (hbne (by omega)) (hbne (by omega)) (hbne (by omega)) (hbeq _) (hbne (by omega)) (hbne (by omega)) (hbne (by omega)) (hbeq _) g1 g2
end ArInt
end Go.Va
namespace Go.Va
open Go.Proofs
set_option maxRecDepth 100000
theorem deed_of {P : Program} {t a : Nat} {fs : Array Field} {y : AV} (h : ArgWf P t y) (hu : P.underlying t = some (.struct fs)) (hfs : fs.toList.map (fun f => (f.offset, f.type)) = [(0, a), (1, a), (2, a)]) (ha : P.underlying a = some (.int .i64))
    (hca : P.cellsOf a = 1) (hct : P.cellsOf t = 3) : ∃ i : ArInt.DeedT, y = ArInt.deedA i ∧ (-9223372036854775808 ≤ i.1 ∧ i.1 ≤ 9223372036854775807) := by
  obtain ⟨xs, rfl, hl, hf⟩ := arg_struct h hu
  rw [hct] at hl
  match xs, hl with
  | [x, y, z], _ =>
    have hg : ∀ p ∈ fs.toList.map (fun f => (f.offset, f.type)), Wf P p.2 (([x, y, z].drop p.1).take (P.cellsOf p.2)) := by
      intro p hp
      obtain ⟨f, hf1, rfl⟩ := List.mem_map.1 hp
      exact hf f hf1
    rw [hfs] at hg
    have h0 := hg (0, a) (by simp)
    have h1 := hg (1, a) (by simp)
    have h2 := hg (2, a) (by simp)
    simp only [hca] at h0 h1 h2
    obtain ⟨o, e0, hw⟩ := Wf_int h0 ha
    obtain ⟨s, e1, -⟩ := Wf_int h1 ha
    obtain ⟨t, e2, -⟩ := Wf_int h2 ha
    simp at e0 e1 e2
    subst e0 e1 e2
    exact ⟨(o, s, t), rfl, by simpa [Lit.wf, IntKind.min, IntKind.max, IntKind.bits, IntKind.signed] using hw⟩
end Go.Va

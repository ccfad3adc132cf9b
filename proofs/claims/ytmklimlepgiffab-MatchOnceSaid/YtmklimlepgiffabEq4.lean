/- The functions that the statement reaches, by equations: no statement of its own. -/
import Derived.Test.YtmklimlepgiffabEq3
set_option linter.unusedVariables false
set_option linter.unusedSimpArgs false
set_option linter.unusedSectionVars false
set_option linter.unusedVariables false
namespace Go.Va.Vc
open Go.Va
open Go.Proofs Go.RowKit
set_option maxHeartbeats 4000000 in
set_option maxRecDepth 100000 in
theorem st_deep_0 (w : World) (B b : Nat) (c : CkS) (N : Int) (a k : ByteArray) (hw : B ≤ w.heap.size) (p : PlT) (r : List PlT) (g cap : Nat) (cur : Array Value) (nm : Value) (h : CkAt w B b c N (p :: r) g cap cur nm) (hp2 : p.2.2 = false) (hd : 8 < (r.length : Int) + 1) : Calls Try.prog 100 #[.pointer (some ⟨b, 0, none⟩), .agg #[.int .i64 1, .string a, .string ⟨#[]⟩]] w fun e w' => e = .returned (errV 12) ∧ Below B w w' := by
  have d0 := (insW_cell h 1 a ⟨#[]⟩ 0).trans h.c0
  have e0 := (insW_row h 1 a ⟨#[]⟩ (r.length * 2)).trans h.p0
  have e1 := (insW_row h 1 a ⟨#[]⟩ (r.length * 2 + 1)).trans h.p1
  rw [hp2] at e1
  have hfew : r.length + 1 ≤ 300 := h.hfew
  have hcap : r.length + 1 ≤ cap := h.hcap
  have hmax := h.hmax
  have i1 := wrapn r.length (by omega)
  go_enter Try.func100, Try.ntmps100
  go_wp2
  go_quiet (fail)
  go_wp2
  go_quiet (fail)
  go_wp2
  go_ret
  exact ⟨rfl, below_drewN ((Below.refl B w).alloc hw _) _⟩
set_option maxHeartbeats 4000000 in
set_option maxRecDepth 100000 in
theorem st_deep_k (w : World) (B b : Nat) (c : CkS) (N : Int) (a k : ByteArray) (hw : B ≤ w.heap.size) (p : PlT) (r : List PlT) (g cap : Nat) (cur : Array Value) (nm : Value) (h : CkAt w B b c N (p :: r) g cap cur nm) (hp2 : p.2.2 = false) (hd : 8 < (r.length : Int) + 1) (hk0 : k ≠ ⟨#[]⟩) (hN : 0 ≤ N) (hk : hasK k p.2.1 = false) : Calls Try.prog 100 #[.pointer (some ⟨b, 0, none⟩), .agg #[.int .i64 1, .string a, .string k]] w fun e w' => e = .returned (errV 12) ∧ Below B w w' := by
  have d0 := (insW_cell h 1 a k 0).trans h.c0
  have e0 := (insW_row h 1 a k (r.length * 2)).trans h.p0
  have e1 := (insW_row h 1 a k (r.length * 2 + 1)).trans h.p1
  rw [hp2] at e1
  have hfew : r.length + 1 ≤ 300 := h.hfew
  have hcap : r.length + 1 ≤ cap := h.hcap
  have hmax := h.hmax
  have i1 := wrapn r.length (by omega)
  obtain ⟨m1, m2⟩ := h.hm p (by simp)
  obtain ⟨v, v1, v2, v3, v4⟩ := look m2 hN t96 Try.underlying9 z3 k
  have v0 : v = 0 := by
    have : ¬ 0 < v := fun q => by rw [v2.1 q] at hk; cases hk
    omega
  subst v0
  have hmh : (insW w 1 a k).heap[p.1]? = w.heap[p.1]? := Lib.alloc_old w _ p.1 m2.lt
  have lk1 := fun n => v1 ((insW w 1 a k).drewN n) hmh
  have hemp : (!k.toList.isEmpty) = true := nempty hk0
  go_enter Try.func100, Try.ntmps100
  go_wp2
  go_quiet (fail)
  go_wp2
  go_quiet (fail)
  go_wp2
  go_ret
  exact ⟨rfl, below_drewN ((Below.refl B w).alloc hw _) _⟩
end Go.Va.Vc
set_option linter.unusedVariables false
namespace Go.Va.Vc
open Go.Va
open Go.Proofs Go.RowKit
theorem flat_set {cur : Array Value} {p : PlT} {r : List PlT} {n : Nat} (hs : n = (r.length + 1) * 2) (hsz : n ≤ cur.size) (h : cur.toList.take n = flat (p :: r)) (v : Bool) : (cur.setIfInBounds (r.length * 2 + 1) (.bool v)).toList.take n = flat ((p.1, p.2.1, v) :: r) := by
  have h2 : flat (p :: r) = flat r ++ [.map (some p.1), .bool p.2.2] := rfl
  have h3 : flat ((p.1, p.2.1, v) :: r) = flat r ++ [.map (some p.1), .bool v] := rfl
  rw [h3]
  rw [h2] at h
  rw [Array.toList_setIfInBounds, List.take_set, h, List.set_append_right _ _ (by rw [flat_len]; omega), flat_len, show r.length * 2 + 1 - 2 * r.length = 1 by omega]
  rfl
theorem CkAt.setAll {w w' : World} {B b : Nat} {c : CkS} {N : Int} {p : PlT} {r : List PlT} {g cap : Nat} {cur : Array Value} {nm : Value} (h : CkAt w B b c N (p :: r) g cap cur nm) (v : Bool)
    (hg : w'.heap[g]? = some (.cells (cur.setIfInBounds (r.length * 2 + 1) (.bool v)) 98 (0, 0))) (ho : ∀ k, k ≠ g → k < w.heap.size → w'.heap[k]? = w.heap[k]?) :
    CkAt w' B b { c with l := (p.2.1, v) :: r.map Prod.snd } N ((p.1, p.2.1, v) :: r) g cap (cur.setIfInBounds (r.length * 2 + 1) (.bool v)) nm :=
  h.turn ((ho b h.ne (Array.getElem?_eq_some_iff.1 h.hb).1).trans h.hb) hg (fun k _ k2 k3 => ho k k2 k3) (by simp) (flat_set (by simp) (by have h1 := h.hcap; have h2 := h.hsz; simp only [List.length_cons] at h1 ⊢; omega) h.hcur v) rfl (by simp) (Nat.le_refl _)
    (fun q hq => by
      rcases List.mem_cons.1 hq with rfl | hq
      · exact ⟨p, by simp, rfl, rfl⟩
      · exact ⟨q, by simp [hq], rfl, rfl⟩) (List.Sublist.refl _) rfl rfl
/-- the world behind the store into a place -/
abbrev allW (w : World) (o : Int) (a k : ByteArray) (g n : Nat) (v : Bool) : World := (insW w o a k).setCell ⟨g, n, none⟩ (.bool v)
theorem allW_heap {w : World} {B b : Nat} {c : CkS} {N : Int} {p : PlT} {r : List PlT} {g cap : Nat} {cur : Array Value} {nm : Value} (h : CkAt w B b c N (p :: r) g cap cur nm) (o : Int) (a k : ByteArray) (v : Bool) :
    (allW w o a k g (r.length * 2 + 1) v).heap[g]? = some (.cells (cur.setIfInBounds (r.length * 2 + 1) (.bool v)) 98 (0, 0)) ∧ ∀ x, x ≠ g → x < w.heap.size → (allW w o a k g (r.length * 2 + 1) v).heap[x]? = w.heap[x]? := by
  have hg : (insW w o a k).heap[g]? = some (.cells cur 98 (0, 0)) := (Lib.alloc_old w _ g (Array.getElem?_eq_some_iff.1 h.hr).1).trans h.hr
  obtain ⟨s1, s2⟩ := set_b hg (r.length * 2 + 1) (.bool v)
  exact ⟨s1, fun x hx hlt => (s2 x hx).trans (Lib.alloc_old w _ x hlt)⟩
theorem allW_below {w : World} {B g : Nat} (hw : B ≤ w.heap.size) (hg : B ≤ g) (o : Int) (a k : ByteArray) (n : Nat) (v : Bool) : Below B w (allW w o a k g n v) :=
  ((Below.refl B w).alloc hw _).setCell (p := ⟨g, n, none⟩) hg _
set_option maxHeartbeats 4000000 in
set_option maxRecDepth 100000 in
theorem st_ok_C (w : World) (B b : Nat) (c : CkS) (N : Int) (o : Int) (a k : ByteArray) (hw : B ≤ w.heap.size) (p : PlT) (r : List PlT) (g cap : Nat) (cur : Array Value) (nm : Value) (h : CkAt w B b c N (p :: r) g cap cur nm) (ho1 : (o == 1) = false) (ho3 : (o == 3) = false) (hp2 : p.2.2 = false) : Calls Try.prog 100 #[.pointer (some ⟨b, 0, none⟩), .agg #[.int .i64 o, .string a, .string k]] w fun e w' => e = .returned (errV 0) ∧ CkIs w' B b { c with l := (p.2.1, o == 7) :: r.map Prod.snd } N ∧ Below B w w' ∧ K38 w w' := by
  have d0 := (insW_cell h o a k 0).trans h.c0
  have e0 := (insW_row h o a k (r.length * 2)).trans h.p0
  have e1 := (insW_row h o a k (r.length * 2 + 1)).trans h.p1
  rw [hp2] at e1
  have f1 : (insW w o a k).frozen? ⟨g, r.length * 2 + 1, none⟩ = false := (World.frozen?_of_block (Lib.alloc_old w _ g (Array.getElem?_eq_some_iff.1 h.hr).1)).trans (h.fr _)
  have hfew : r.length + 1 ≤ 300 := h.hfew
  have hcap : r.length + 1 ≤ cap := h.hcap
  have hmax := h.hmax
  have i1 := wrapn r.length (by omega)
  go_enter Try.func100, Try.ntmps100
  go_wp2
  go_quiet (fail)
  go_wp2
  go_quiet (fail)
  go_wp2
  go_ret
  obtain ⟨s1, s2⟩ := allW_heap h o a k (o == 7)
  exact ⟨rfl, ⟨_, _, _, _, _, h.setAll (o == 7) s1 s2⟩, below_drewN (allW_below hw h.hg _ _ _ _ _) _, fun x cs hx => s2 x (by rintro rfl; rw [h.hr] at hx; simp at hx) (Array.getElem?_eq_some_iff.1 hx).1⟩
end Go.Va.Vc

/- The functions that the statement reaches, by equations: no statement of its own. -/
import Derived.Test.YtmklimlepgiffabEq2
import Derived.Test.YtmklimlepgiffabProg
import Derived.Lib.Builder
import Derived.Laws.AppendOwn
import Derived.OwnWalk
import Derived.LoopTactic
import Derived.Deep.QuietTactic
import Derived.BigQuiet
import Derived.BigRegion
set_option linter.unusedVariables false
set_option linter.unusedSimpArgs false
set_option linter.unusedSectionVars false
set_option linter.unusedVariables false
namespace Go.Va.Vc
open Go.Va
open Go.Proofs Go.RowKit
abbrev PlT := Nat × List ByteArray × Bool
def flat : List PlT → List Value
  | [] => []
  | p :: r => flat r ++ [.map (some p.1), .bool p.2.2]
theorem flat_len : ∀ l : List PlT, (flat l).length = 2 * l.length
  | [] => rfl
  | p :: r => by
    have := flat_len r
    simp [flat, this]
    omega
def errV (n : Nat) : Value := match n with
  | 0 => .nilIface
  | n + 1 => .iface 39 (.int .i64 (n + 1 : Nat))
/-- a checker at a block -/
structure CkAt (w : World) (B b : Nat) (c : CkS) (N : Int) (pl : List PlT) (g cap : Nat) (cur : Array Value) (nm : Value) : Prop where
  hB : B ≤ b
  hb : w.heap[b]? = some (.cells #[.slice (some ⟨g, 0, none⟩) pl.length cap, .int .i64 c.ahead, nm] 101 (0, 0))
  hg : B ≤ g
  hr : w.heap[g]? = some (.cells cur 98 (0, 0))
  hcap : pl.length ≤ cap
  hmax : cap ≤ maxLen
  hsz : cur.size = cap * 2
  hcur : cur.toList.take (pl.length * 2) = flat pl
  hl : c.l = pl.map Prod.snd
  hne : pl ≠ []
  hfew : pl.length ≤ 300
  hm : ∀ p ∈ pl, B ≤ p.1 ∧ MapIs w p.1 p.2.1 N
  hnd : (pl.map Prod.fst).Nodup
  hel : (elemB c.ahead || tellsB c.ahead) = true → nm ≠ .map none
  hnm : (nm = .map none ∧ c.names = []) ∨ ∃ m, nm = .map (some m) ∧ B ≤ m ∧ MapIs w m c.names N ∧ m ∉ pl.map Prod.fst
def CkIs (w : World) (B b : Nat) (c : CkS) (N : Int) : Prop := ∃ pl g cap cur nm, CkAt w B b c N pl g cap cur nm
/-- what isn't the checker's -/
def K38 (w w' : World) : Prop := ∀ (x : Nat) (cs : Array Value), w.heap[x]? = some (.cells cs 38 (0, 0)) → w'.heap[x]? = w.heap[x]?
theorem K38.refl (w : World) : K38 w w := fun _ _ _ => rfl
theorem K38.trans {a b c : World} (h : K38 a b) (k : K38 b c) : K38 a c := fun x cs hx => (k x cs ((h x cs hx).trans hx)).trans (h x cs hx)
theorem K38.of {w w' : World} (h : Below w.heap.size w w') : K38 w w' := fun x cs hx => h.block x (Array.getElem?_eq_some_iff.1 hx).1
/-- the same, with a map of names -/
def CkIsQ (w : World) (B b : Nat) (c : CkS) (N : Int) : Prop := ∃ pl g cap cur nm, CkAt w B b c N pl g cap cur nm ∧ nm ≠ .map none
theorem CkIsQ.is {w : World} {B b : Nat} {c : CkS} {N : Int} (h : CkIsQ w B b c N) : CkIs w B b c N := by
  obtain ⟨pl, g, cap, cur, nm, h, -⟩ := h
  exact ⟨pl, g, cap, cur, nm, h⟩
section
variable {w : World} {B b : Nat} {c : CkS} {N : Int} {pl : List PlT} {g cap : Nat} {cur : Array Value} {nm : Value}
theorem CkAt.ne (h : CkAt w B b c N pl g cap cur nm) : b ≠ g := by
  rintro rfl
  have := h.hb.symm.trans h.hr
  simp at this
theorem CkAt.c0 (h : CkAt w B b c N pl g cap cur nm) : w.cell? ⟨b, 0, none⟩ = some (.slice (some ⟨g, 0, none⟩) pl.length cap) := by rw [Lib.cell_of_heap h.hb]; rfl
theorem CkAt.c1 (h : CkAt w B b c N pl g cap cur nm) : w.cell? ⟨b, 1, none⟩ = some (.int .i64 c.ahead) := by rw [Lib.cell_of_heap h.hb]; rfl
theorem CkAt.c2 (h : CkAt w B b c N pl g cap cur nm) : w.cell? ⟨b, 2, none⟩ = some nm := by rw [Lib.cell_of_heap h.hb]; rfl
theorem CkAt.f (h : CkAt w B b c N pl g cap cur nm) (j : Nat) : w.frozen? ⟨b, j, none⟩ = false := Lib.frozen_of_heap h.hb j
end
theorem set_b {w : World} {b : Nat} {cs : Array Value} {T : TypeId} {fr : Nat × Nat} (hb : w.heap[b]? = some (.cells cs T fr)) (j : Nat) (v : Value) :
    (w.setCell ⟨b, j, none⟩ v).heap[b]? = some (.cells (cs.setIfInBounds j v) T fr) ∧ ∀ k, k ≠ b → (w.setCell ⟨b, j, none⟩ v).heap[k]? = w.heap[k]? := by
  refine ⟨by simp [World.setCell, Array.getElem?_modify, hb], fun k hk => Below.heap_setCell _ _ _ _ hk⟩
theorem mapNe {w : World} {m b : Nat} {ks : List ByteArray} {N : Int} {cs : Array Value} {T : TypeId} {fr : Nat × Nat} (h : MapIs w m ks N) (hb : w.heap[b]? = some (.cells cs T fr)) : m ≠ b := by
  rintro rfl
  obtain ⟨es, cl, h1, -⟩ := h
  rw [h1] at hb
  cases hb
/-- only the checker's own block, and the row of its places, have turned -/
theorem CkAt.turn {w w' : World} {B b : Nat} {c c' : CkS} {N : Int} {pl pl' : List PlT} {g cap : Nat} {cur cur' : Array Value} {nm : Value} (h : CkAt w B b c N pl g cap cur nm)
    (hb : w'.heap[b]? = some (.cells #[.slice (some ⟨g, 0, none⟩) pl'.length cap, .int .i64 c'.ahead, nm] 101 (0, 0))) (hg : w'.heap[g]? = some (.cells cur' 98 (0, 0))) (ho : ∀ k, k ≠ b → k ≠ g → k < w.heap.size → w'.heap[k]? = w.heap[k]?)
    (hs : cur'.size = cur.size) (hcur : cur'.toList.take (pl'.length * 2) = flat pl') (hl : c'.l = pl'.map Prod.snd) (hne : pl' ≠ []) (hlen : pl'.length ≤ pl.length) (hm : ∀ p ∈ pl', ∃ q ∈ pl, q.1 = p.1 ∧ q.2.1 = p.2.1) (hnd : (pl'.map Prod.fst).Sublist (pl.map Prod.fst)) (hn : c'.names = c.names) (ha : c'.ahead = c.ahead) :
    CkAt w' B b c' N pl' g cap cur' nm where
  hB := h.hB
  hb := hb
  hg := h.hg
  hr := hg
  hcap := Nat.le_trans hlen h.hcap
  hmax := h.hmax
  hsz := hs.trans h.hsz
  hcur := hcur
  hl := hl
  hne := hne
  hfew := Nat.le_trans hlen h.hfew
  hm := by
    intro p hp
    obtain ⟨q, hq, e1, e2⟩ := hm p hp
    obtain ⟨k1, k2⟩ := h.hm q hq
    rw [← e1, ← e2]
    exact ⟨k1, k2.mono (ho _ (mapNe k2 h.hb) (mapNe k2 h.hr) k2.lt) (Int.le_refl _)⟩
  hnd := h.hnd.sublist hnd
  hel := by
    rw [ha]
    exact h.hel
  hnm := by
    rw [hn]
    rcases h.hnm with k | ⟨m, k1, k2, k3, k4⟩
    · exact .inl k
    · exact .inr ⟨m, k1, k2, k3.mono (ho _ (mapNe k3 h.hb) (mapNe k3 h.hr) k3.lt) (Int.le_refl _), fun q => k4 (hnd.subset q)⟩
theorem below_drew {B : Nat} {w w' : World} (h : Below B w w') : Below B w w'.drew := h.trans (Below.drew (Below.refl B w'))
set_option maxHeartbeats 2000000 in
set_option maxRecDepth 100000 in
theorem c_ends (w : World) (B b : Nat) (c : CkS) (N : Int) (h : CkIs w B b c N) : Calls Try.prog 99 #[.pointer (some ⟨b, 0, none⟩)] w fun e w' => e = .returned (errV (ckEnds c).1) ∧ CkIs w' B b (ckEnds c).2 N ∧ Below B w w' ∧ K38 w w' := by
  obtain ⟨pl, g, cap, cur, nm, h⟩ := h
  have c0 := h.c0
  have f0 := h.f 0
  cases hp : pl with
  | nil => exact (h.hne hp).elim
  | cons p r =>
    cases hq : r with
    | nil =>
      subst hp hq
      go_enter Try.func99, Try.ntmps99
      go_wp2
      go_ret
      have hc : c.l = [p.2] := h.hl
      have e : ckEnds c = (8, c) := by unfold ckEnds; rw [hc]
      rw [e]
      exact ⟨rfl, ⟨_, _, _, _, _, h⟩, Below.refl _ _, K38.refl _⟩
    | cons q r2 =>
      subst hp hq
      go_enter Try.func99, Try.ntmps99
      go_wp2
      have hN : r2.length + 2 ≤ 300 := h.hfew
      have hC : r2.length + 2 ≤ cap := h.hcap
      have hM := h.hmax
      go_region
      go_wp2
      go_ret
      have hc : c.l = p.2 :: q.2 :: r2.map Prod.snd := h.hl
      have e : ckEnds c = (0, { c with l := q.2 :: r2.map Prod.snd }) := by unfold ckEnds; rw [hc]
      rw [e]
      obtain ⟨s1, s2⟩ := set_b h.hb 0 (.slice (some ⟨g, 0, none⟩) (r2.length + 1) cap)
      refine ⟨rfl, ⟨q :: r2, g, cap, cur, nm, h.turn s1 ((s2 g h.ne.symm).trans h.hr) (fun k k1 _ _ => s2 k k1) rfl ?_ rfl (by simp) (by simp) (fun p' hp' => ⟨p', List.mem_cons_of_mem _ hp', rfl, rfl⟩) (List.sublist_cons_self _ _) rfl rfl⟩, ?_, fun x cs hx => s2 x (by rintro rfl; rw [h.hb] at hx; simp at hx)⟩
      · have hcur := h.hcur
        have h1 : flat (p :: q :: r2) = flat (q :: r2) ++ [.map (some p.1), .bool p.2.2] := rfl
        have h2 : cur.toList.take ((q :: r2).length * 2) = (cur.toList.take ((p :: q :: r2).length * 2)).take ((q :: r2).length * 2) := by
          rw [List.take_take, Nat.min_eq_left (by simp; omega)]
        rw [h2, hcur, h1, List.take_append_of_le_length (by rw [flat_len]; omega), List.take_of_length_le (by rw [flat_len]; omega)]
      · exact below_drew ((Below.refl B w).setCell (p := ⟨b, 0, none⟩) h.hB _)
end Go.Va.Vc
set_option linter.unusedVariables false
namespace Go.Va.Vc
open Go.Va
open Go.Proofs Go.RowKit
theorem t96 : Try.prog.underlying 96 = some (.map 9 3) := Try.underlying96
theorem z3 (w : World) : (zeroValue 3).run Try.prog w = .ok (.int .i64 0) w := by first | exact Try.zeroValue3 w | exact Try.zeroValue3 | exact Try.zeroValue3 _ 
theorem names_len {w : World} {m : Nat} {ks : List ByteArray} {N : Int} (h : MapIs w m ks N) : ∃ es cl, w.heap[m]? = some (.map es cl) ∧ es.size = ks.length := by
  obtain ⟨es, cl, h1, h2, -⟩ := h
  refine ⟨es, cl, h1, ?_⟩
  have := congrArg List.length h2
  simpa using this
theorem drewN_heap (w : World) (n : Nat) : (w.drewN n).heap = w.heap := rfl
theorem below_drewN {B : Nat} {w w' : World} (h : Below B w w') (n : Nat) : Below B w (w'.drewN n) := ⟨h.os, h.tape, h.output, h.size, h.block⟩
abbrev insW (w : World) (o : Int) (a k : ByteArray) : World := w.alloc (.cells #[.int .i64 o, .string a, .string k] 38)
theorem insW_cell {w : World} {B b : Nat} {c : CkS} {N : Int} {pl : List PlT} {g cap : Nat} {cur : Array Value} {nm : Value} (h : CkAt w B b c N pl g cap cur nm) (o : Int) (a k : ByteArray) (j : Nat) : (insW w o a k).cell? ⟨b, j, none⟩ = w.cell? ⟨b, j, none⟩ :=
  World.cell?_of_block (Lib.alloc_old w _ b (Array.getElem?_eq_some_iff.1 h.hb).1)
set_option maxHeartbeats 4000000 in
set_option maxRecDepth 100000 in
theorem c_attr_no (w : World) (B b : Nat) (c : CkS) (N : Int) (o : Int) (a k : ByteArray) (hw : B ≤ w.heap.size) (h : CkIs w B b c N) (he : (elemB c.ahead || tellsB c.ahead) = false) : Calls Try.prog 98 #[.pointer (some ⟨b, 0, none⟩), .agg #[.int .i64 o, .string a, .string k]] w fun e w' => e = .returned (errV 9) ∧ Below B w w' := by
  obtain ⟨pl, g, cap, cur, nm, h⟩ := h
  have d1 := (insW_cell h o a k 1).trans h.c1
  simp only [elemB, tellsB, Bool.or_eq_false_iff, decide_eq_false_iff_not] at he
  obtain ⟨⟨e1, e3⟩, e5, e6⟩ := he
  go_enter Try.func98, Try.ntmps98
  go_wp2
  go_quiet (fail)
  go_wp2
  go_ret
  exact ⟨rfl, below_drewN ((Below.refl B w).alloc hw _) _⟩
set_option maxHeartbeats 4000000 in
set_option maxRecDepth 100000 in
theorem c_attr_has (w : World) (B b : Nat) (c : CkS) (N : Int) (o : Int) (a k : ByteArray) (hw : B ≤ w.heap.size) (h : CkIs w B b c N) (he : (elemB c.ahead || tellsB c.ahead) = true) (hN : 0 ≤ N) (hk : hasK a c.names = true) : Calls Try.prog 98 #[.pointer (some ⟨b, 0, none⟩), .agg #[.int .i64 o, .string a, .string k]] w fun e w' => e = .returned (errV 9) ∧ Below B w w' := by
  obtain ⟨pl, g, cap, cur, nm, h⟩ := h
  have d1 := (insW_cell h o a k 1).trans h.c1
  have d2 := (insW_cell h o a k 2).trans h.c2
  rcases h.hnm with ⟨k1, -⟩ | ⟨m, rfl, k2, k3, k4⟩
  · exact (h.hel he k1).elim
  obtain ⟨v, v1, v2, v3, v4⟩ := look k3 hN t96 Try.underlying9 z3 a
  have vpos : 0 < v := v2.2 hk
  have hmh : (insW w o a k).heap[m]? = w.heap[m]? := Lib.alloc_old w _ m k3.lt
  have lk1 := fun n => v1 ((insW w o a k).drewN n) hmh
  have lk2 := v1 (insW w o a k) hmh
  have hel : (c.ahead == 1 || c.ahead == 3 || (c.ahead == 5 || c.ahead == 6)) = true := by
    simpa [elemB, tellsB, or_assoc] using he
  go_enter Try.func98, Try.ntmps98
  go_wp2
  all_goals (go_quiet (fail); go_wp2; go_ret; exact ⟨rfl, below_drewN ((Below.refl B w).alloc hw _) _⟩)
end Go.Va.Vc
set_option linter.unusedVariables false
namespace Go.Va.Vc
open Go.Va
open Go.Proofs Go.RowKit
theorem len_map {w : World} {m : Nat} {es : Array MapEntry} {cl : Nat} (hb : w.heap[m]? = some (.map es cl)) : (Builtin.len_ #[96] 3 #[.map (some m)]).run Try.prog w = .ok (.int .i64 es.size) w := by
  simp [Builtin.len_, run_underlying t96, MapKept.run_getObj_map hb, Result.andThen, goInt]
set_option maxHeartbeats 4000000 in
set_option maxRecDepth 100000 in
theorem c_attr_many (w : World) (B b : Nat) (c : CkS) (N : Int) (o : Int) (a k : ByteArray) (hw : B ≤ w.heap.size) (h : CkIs w B b c N) (he : (elemB c.ahead || tellsB c.ahead) = true) (hN : 0 ≤ N) (hk : hasK a c.names = false) (hl : 8 ≤ c.names.length) : Calls Try.prog 98 #[.pointer (some ⟨b, 0, none⟩), .agg #[.int .i64 o, .string a, .string k]] w fun e w' => e = .returned (errV 9) ∧ Below B w w' := by
  obtain ⟨pl, g, cap, cur, nm, h⟩ := h
  have d1 := (insW_cell h o a k 1).trans h.c1
  have d2 := (insW_cell h o a k 2).trans h.c2
  rcases h.hnm with ⟨k1, -⟩ | ⟨m, rfl, k2, k3, k4⟩
  · exact (h.hel he k1).elim
  obtain ⟨v, v1, v2, v3, v4⟩ := look k3 hN t96 Try.underlying9 z3 a
  have v0 : v = 0 := by
    have : ¬ 0 < v := fun q => by rw [v2.1 q] at hk; cases hk
    omega
  subst v0
  have hmh : (insW w o a k).heap[m]? = w.heap[m]? := Lib.alloc_old w _ m k3.lt
  have lk1 := fun n => v1 ((insW w o a k).drewN n) hmh
  have lk2 := v1 (insW w o a k) hmh
  obtain ⟨es, cl, n1, n2⟩ := names_len k3
  have ln1 := fun n => len_map (w := (insW w o a k).drewN n) (hmh.trans n1)
  have ln2 := len_map (w := insW w o a k) (hmh.trans n1)
  rw [n2] at ln1 ln2
  have hl8 : (8 : Int) ≤ (c.names.length : Int) := by omega
  have hel : (c.ahead == 1 || c.ahead == 3 || (c.ahead == 5 || c.ahead == 6)) = true := by
    simpa [elemB, tellsB, or_assoc] using he
  go_enter Try.func98, Try.ntmps98
  go_wp2
  all_goals (go_quiet (fail); go_wp2; go_ret; exact ⟨rfl, below_drewN ((Below.refl B w).alloc hw _) _⟩)
/-- one map, of the names or of a place, has turned -/
theorem CkAt.mapTurn {w w' : World} {B b : Nat} {c c' : CkS} {N N' : Int} {pl pl' : List PlT} {g cap : Nat} {cur : Array Value} {nm : Value} (h : CkAt w B b c N pl g cap cur nm) (x : Nat) (ho : ∀ k, k ≠ x → k < w.heap.size → w'.heap[k]? = w.heap[k]?) (hx : ∃ ks, MapIs w x ks N) (hNN : N ≤ N')
    (ha : c'.ahead = c.ahead) (hl : c'.l = pl'.map Prod.snd) (hlen : pl'.length = pl.length) (hfl : flat pl' = flat pl) (hm : ∀ p ∈ pl', (p ∈ pl ∧ p.1 ≠ x) ∨ (B ≤ p.1 ∧ MapIs w' p.1 p.2.1 N')) (hnd : pl'.map Prod.fst = pl.map Prod.fst)
    (hn : (nm = .map none ∧ c'.names = []) ∨ ∃ m, nm = .map (some m) ∧ B ≤ m ∧ MapIs w' m c'.names N' ∧ m ∉ pl'.map Prod.fst) : CkAt w' B b c' N' pl' g cap cur nm := by
  obtain ⟨ks, hx⟩ := hx
  have hxb := mapNe hx h.hb
  have hxg := mapNe hx h.hr
  have ltb : b < w.heap.size := (Array.getElem?_eq_some_iff.1 h.hb).1
  have ltg : g < w.heap.size := (Array.getElem?_eq_some_iff.1 h.hr).1
  refine ⟨h.hB, ?_, h.hg, (ho g hxg.symm ltg).trans h.hr, by rw [hlen]; exact h.hcap, h.hmax, h.hsz, by rw [hlen, hfl]; exact h.hcur, hl, ?_, by rw [hlen]; exact h.hfew, ?_, by rw [hnd]; exact h.hnd, by rw [ha]; exact h.hel, hn⟩
  · rw [hlen, ha]
    exact (ho b hxb.symm ltb).trans h.hb
  · intro e
    rw [e] at hlen
    exact h.hne (List.length_eq_zero_iff.1 hlen.symm)
  · intro p hp
    rcases hm p hp with ⟨k1, k2⟩ | k
    · obtain ⟨q1, q2⟩ := h.hm p k1
      exact ⟨q1, q2.mono (ho _ k2 q2.lt) hNN⟩
    · exact k
theorem CkAt.lt {w : World} {B b : Nat} {c : CkS} {N : Int} {pl : List PlT} {g cap : Nat} {cur : Array Value} {nm : Value} (h : CkAt w B b c N pl g cap cur nm) : b < w.heap.size := (Array.getElem?_eq_some_iff.1 h.hb).1
set_option maxHeartbeats 4000000 in
set_option maxRecDepth 100000 in
theorem c_attr_ok (w : World) (B b : Nat) (c : CkS) (N : Int) (o : Int) (a k : ByteArray) (hw : B ≤ w.heap.size) (h : CkIs w B b c N) (he : (elemB c.ahead || tellsB c.ahead) = true) (hN : 0 ≤ N) (hk : hasK a c.names = false) (hl : c.names.length < 8) : Calls Try.prog 98 #[.pointer (some ⟨b, 0, none⟩), .agg #[.int .i64 o, .string a, .string k]] w fun e w' => e = .returned (errV 0) ∧ CkIsQ w' B b { c with names := c.names ++ [a] } (N + 1) ∧ Below B w w' ∧ K38 w w' := by
  obtain ⟨pl, g, cap, cur, nm, h⟩ := h
  have d1 := (insW_cell h o a k 1).trans h.c1
  have d2 := (insW_cell h o a k 2).trans h.c2
  rcases h.hnm with ⟨k1, -⟩ | ⟨m, rfl, k2, k3, k4⟩
  · exact (h.hel he k1).elim
  obtain ⟨v, v1, v2, v3, v4⟩ := look k3 hN t96 Try.underlying9 z3 a
  have v0 : v = 0 := by
    have : ¬ 0 < v := fun q => by rw [v2.1 q] at hk; cases hk
    omega
  subst v0
  have hmh : (insW w o a k).heap[m]? = w.heap[m]? := Lib.alloc_old w _ m k3.lt
  have lk1 := fun n => v1 ((insW w o a k).drewN n) hmh
  have lk2 := v1 (insW w o a k) hmh
  obtain ⟨es, cl, n1, n2⟩ := names_len k3
  have ln1 := fun n => len_map (w := (insW w o a k).drewN n) (hmh.trans n1)
  have ln2 := len_map (w := insW w o a k) (hmh.trans n1)
  rw [n2] at ln1 ln2
  have hl8 : (c.names.length : Int) < 8 := by omega
  have hup : ∀ n, ∃ w2, (Instr.mapUpdate 96 (.map (some m)) (.string a) (.int .i64 1)).run Try.prog ((insW w o a k).drewN (n + 1)) = .ok () w2 ∧ CkIsQ w2 B b { c with names := c.names ++ [a] } (N + 1) ∧ Below B w w2 ∧ K38 w w2 := by
    intro n
    have k3' : MapIs ((insW w o a k).drewN (n + 1)) m c.names N := k3.mono hmh (Int.le_refl _)
    obtain ⟨w2, u1, u2, u3, u4, u5, u6, u7⟩ := update k3' t96 Try.underlying9 a (v := 1) (by omega) (by omega)
    have ho : ∀ x, x ≠ m → x < w.heap.size → w2.heap[x]? = w.heap[x]? := fun x hx hlt => (u4 x hx).trans (Lib.alloc_old w _ x hlt)
    refine ⟨w2, u1, ⟨pl, g, cap, cur, .map (some m), h.mapTurn m ho ⟨_, k3⟩ (by omega) rfl h.hl rfl rfl (fun p hp => .inl ⟨hp, fun e => k4 (List.mem_map.2 ⟨p, hp, e⟩)⟩) rfl (.inr ⟨m, rfl, k2, ?_, k4⟩), by simp⟩, ?_, fun x cs hx => ho x (by rintro rfl; obtain ⟨_, _, z, -⟩ := k3; rw [z] at hx; cases hx) (Array.getElem?_eq_some_iff.1 hx).1⟩
    · have : addK a c.names = c.names ++ [a] := by unfold addK; rw [hk]; rfl
      rw [← this]
      exact u2
    · have hb1 : Below B w (insW w o a k) := (Below.refl B w).alloc hw _
      exact ⟨u5.trans hb1.os, u6.trans hb1.tape, u7.trans hb1.output, by rw [u3]; exact hb1.size, fun x hx => ho x (by omega) (by omega)⟩
  have hel : (c.ahead == 1 || c.ahead == 3 || (c.ahead == 5 || c.ahead == 6)) = true := by
    simpa [elemB, tellsB, or_assoc] using he
  clear v1 hmh k3 n1 ln2 lk2 hl
  go_enter Try.func98, Try.ntmps98
  go_wp2
  all_goals (go_quiet (fail); go_wp2; obtain ⟨w2, u1, u2, u3⟩ := hup nq; clear hup; go_region; go_wp2; go_ret; exact ⟨rfl, u2, u3⟩)
end Go.Va.Vc
set_option linter.unusedVariables false
namespace Go.Va.Vc
open Go.Va
open Go.Proofs Go.RowKit
section
variable {w : World} {B b : Nat} {c : CkS} {N : Int} {p : PlT} {r : List PlT} {g cap : Nat} {cur : Array Value} {nm : Value}
theorem CkAt.cells (h : CkAt w B b c N (p :: r) g cap cur nm) : cur[r.length * 2]? = some (.map (some p.1)) ∧ cur[r.length * 2 + 1]? = some (.bool p.2.2) := by
  have h1 := h.hcur
  have h2 : flat (p :: r) = flat r ++ [.map (some p.1), .bool p.2.2] := rfl
  rw [h2] at h1
  have k : ∀ j, j < 2 → cur[r.length * 2 + j]? = [Value.map (some p.1), .bool p.2.2][j]? := by
    intro j hj
    have e : (cur.toList.take ((p :: r).length * 2))[r.length * 2 + j]? = cur[r.length * 2 + j]? := by
      rw [List.getElem?_take_of_lt (by simp; omega)]
      simp
    rw [← e, h1, List.getElem?_append_right (by rw [flat_len]; omega), flat_len]
    congr 1
    omega
  exact ⟨k 0 (by omega), k 1 (by omega)⟩
theorem CkAt.p0 (h : CkAt w B b c N (p :: r) g cap cur nm) : w.cell? ⟨g, r.length * 2, none⟩ = some (.map (some p.1)) := by rw [Lib.cell_of_heap h.hr]; exact h.cells.1
theorem CkAt.p1 (h : CkAt w B b c N (p :: r) g cap cur nm) : w.cell? ⟨g, r.length * 2 + 1, none⟩ = some (.bool p.2.2) := by rw [Lib.cell_of_heap h.hr]; exact h.cells.2
theorem CkAt.fr (h : CkAt w B b c N (p :: r) g cap cur nm) (j : Nat) : w.frozen? ⟨g, j, none⟩ = false := Lib.frozen_of_heap h.hr j
theorem insW_row (h : CkAt w B b c N (p :: r) g cap cur nm) (o : Int) (a k : ByteArray) (j : Nat) : (insW w o a k).cell? ⟨g, j, none⟩ = w.cell? ⟨g, j, none⟩ :=
  World.cell?_of_block (Lib.alloc_old w _ g (Array.getElem?_eq_some_iff.1 h.hr).1)
end
theorem nempty {k : ByteArray} (h : k ≠ ⟨#[]⟩) : (!k.toList.isEmpty) = true := by
  rw [ByteArray.toList_eq]
  cases k with
  | mk d =>
    cases e : d.toList with
    | nil =>
      exact (h (by rw [show d = #[] from Array.ext' e])).elim
    | cons x l => rfl
theorem wrapn (n : Nat) (h : n ≤ 300) : IntKind.i64.wrap ((n : Int) + 1 - 1) = n := by rw [IntKind.wrap_i64]; omega
set_option maxHeartbeats 4000000 in
set_option maxRecDepth 100000 in
theorem st_all_A (w : World) (B b : Nat) (c : CkS) (N : Int) (a k : ByteArray) (hw : B ≤ w.heap.size) (p : PlT) (r : List PlT) (g cap : Nat) (cur : Array Value) (nm : Value) (h : CkAt w B b c N (p :: r) g cap cur nm) (hp2 : p.2.2 = true) : Calls Try.prog 100 #[.pointer (some ⟨b, 0, none⟩), .agg #[.int .i64 1, .string a, .string k]] w fun e w' => e = .returned (errV 11) ∧ Below B w w' := by
  have d0 := (insW_cell h 1 a k 0).trans h.c0
  have e0 := (insW_row h 1 a k (r.length * 2)).trans h.p0
  have e1 := (insW_row h 1 a k (r.length * 2 + 1)).trans h.p1
  rw [hp2] at e1
  have hfew : r.length + 1 ≤ 300 := h.hfew
  have hcap : r.length + 1 ≤ cap := h.hcap
  have hmax := h.hmax
  have i1 := wrapn r.length (by omega)
  go_enter Try.func100, Try.ntmps100
  go_wp2
  go_quiet (fail)
  go_wp2
  go_ret
  exact ⟨rfl, below_drewN ((Below.refl B w).alloc hw _) _⟩
set_option maxHeartbeats 4000000 in
set_option maxRecDepth 100000 in
theorem st_key_A (w : World) (B b : Nat) (c : CkS) (N : Int) (a k : ByteArray) (hw : B ≤ w.heap.size) (p : PlT) (r : List PlT) (g cap : Nat) (cur : Array Value) (nm : Value) (h : CkAt w B b c N (p :: r) g cap cur nm) (hp2 : p.2.2 = false) (hk0 : k ≠ ⟨#[]⟩) (hN : 0 ≤ N) (hk : hasK k p.2.1 = true) : Calls Try.prog 100 #[.pointer (some ⟨b, 0, none⟩), .agg #[.int .i64 1, .string a, .string k]] w fun e w' => e = .returned (errV 10) ∧ Below B w w' := by
  have d0 := (insW_cell h 1 a k 0).trans h.c0
  have e0 := (insW_row h 1 a k (r.length * 2)).trans h.p0
  have e1 := (insW_row h 1 a k (r.length * 2 + 1)).trans h.p1
  rw [hp2] at e1
  have hfew : r.length + 1 ≤ 300 := h.hfew
  have hcap : r.length + 1 ≤ cap := h.hcap
  have hmax := h.hmax
  have i1 := wrapn r.length (by omega)
  obtain ⟨m1, m2⟩ := h.hm p (by simp)
  obtain ⟨v, v1, v2, v3, v4⟩ := look m2 hN t96 Try.underlying9 z3 k
  have vpos : 0 < v := v2.2 hk
  have hmh : (insW w 1 a k).heap[p.1]? = w.heap[p.1]? := Lib.alloc_old w _ p.1 m2.lt
  have lk1 := fun n => v1 ((insW w 1 a k).drewN n) hmh
  have hemp : (!k.toList.isEmpty) = true := nempty hk0
  go_enter Try.func100, Try.ntmps100
  go_wp2
  go_quiet (fail)
  go_wp2
  go_quiet (fail)
  go_wp2
  go_ret
  exact ⟨rfl, below_drewN ((Below.refl B w).alloc hw _) _⟩
set_option maxHeartbeats 4000000 in
set_option maxRecDepth 100000 in
theorem st_all_B (w : World) (B b : Nat) (c : CkS) (N : Int) (a k : ByteArray) (hw : B ≤ w.heap.size) (p : PlT) (r : List PlT) (g cap : Nat) (cur : Array Value) (nm : Value) (h : CkAt w B b c N (p :: r) g cap cur nm) (hp2 : p.2.2 = true) : Calls Try.prog 100 #[.pointer (some ⟨b, 0, none⟩), .agg #[.int .i64 3, .string a, .string k]] w fun e w' => e = .returned (errV 11) ∧ Below B w w' := by
  have d0 := (insW_cell h 3 a k 0).trans h.c0
  have e0 := (insW_row h 3 a k (r.length * 2)).trans h.p0
  have e1 := (insW_row h 3 a k (r.length * 2 + 1)).trans h.p1
  rw [hp2] at e1
  have hfew : r.length + 1 ≤ 300 := h.hfew
  have hcap : r.length + 1 ≤ cap := h.hcap
  have hmax := h.hmax
  have i1 := wrapn r.length (by omega)
  go_enter Try.func100, Try.ntmps100
  go_wp2
  go_quiet (fail)
  go_wp2
  go_ret
  exact ⟨rfl, below_drewN ((Below.refl B w).alloc hw _) _⟩
set_option maxHeartbeats 4000000 in
set_option maxRecDepth 100000 in
theorem st_key_B (w : World) (B b : Nat) (c : CkS) (N : Int) (a k : ByteArray) (hw : B ≤ w.heap.size) (p : PlT) (r : List PlT) (g cap : Nat) (cur : Array Value) (nm : Value) (h : CkAt w B b c N (p :: r) g cap cur nm) (hp2 : p.2.2 = false) (hk0 : k ≠ ⟨#[]⟩) (hN : 0 ≤ N) (hk : hasK k p.2.1 = true) : Calls Try.prog 100 #[.pointer (some ⟨b, 0, none⟩), .agg #[.int .i64 3, .string a, .string k]] w fun e w' => e = .returned (errV 10) ∧ Below B w w' := by
  have d0 := (insW_cell h 3 a k 0).trans h.c0
  have e0 := (insW_row h 3 a k (r.length * 2)).trans h.p0
  have e1 := (insW_row h 3 a k (r.length * 2 + 1)).trans h.p1
  rw [hp2] at e1
  have hfew : r.length + 1 ≤ 300 := h.hfew
  have hcap : r.length + 1 ≤ cap := h.hcap
  have hmax := h.hmax
  have i1 := wrapn r.length (by omega)
  obtain ⟨m1, m2⟩ := h.hm p (by simp)
  obtain ⟨v, v1, v2, v3, v4⟩ := look m2 hN t96 Try.underlying9 z3 k
  have vpos : 0 < v := v2.2 hk
  have hmh : (insW w 3 a k).heap[p.1]? = w.heap[p.1]? := Lib.alloc_old w _ p.1 m2.lt
  have lk1 := fun n => v1 ((insW w 3 a k).drewN n) hmh
  have hemp : (!k.toList.isEmpty) = true := nempty hk0
  go_enter Try.func100, Try.ntmps100
  go_wp2
  go_quiet (fail)
  go_wp2
  go_quiet (fail)
  go_wp2
  go_ret
  exact ⟨rfl, below_drewN ((Below.refl B w).alloc hw _) _⟩
set_option maxHeartbeats 4000000 in
set_option maxRecDepth 100000 in
theorem st_all_C (w : World) (B b : Nat) (c : CkS) (N : Int) (o : Int) (a k : ByteArray) (hw : B ≤ w.heap.size) (p : PlT) (r : List PlT) (g cap : Nat) (cur : Array Value) (nm : Value) (h : CkAt w B b c N (p :: r) g cap cur nm) (ho1 : (o == 1) = false) (ho3 : (o == 3) = false) (hp2 : p.2.2 = true) : Calls Try.prog 100 #[.pointer (some ⟨b, 0, none⟩), .agg #[.int .i64 o, .string a, .string k]] w fun e w' => e = .returned (errV 11) ∧ Below B w w' := by
  have d0 := (insW_cell h o a k 0).trans h.c0
  have e0 := (insW_row h o a k (r.length * 2)).trans h.p0
  have e1 := (insW_row h o a k (r.length * 2 + 1)).trans h.p1
  rw [hp2] at e1
  have hfew : r.length + 1 ≤ 300 := h.hfew
  have hcap : r.length + 1 ≤ cap := h.hcap
  have hmax := h.hmax
  have i1 := wrapn r.length (by omega)
  go_enter Try.func100, Try.ntmps100
  go_wp2
  go_quiet (fail)
  go_wp2
  go_ret
  exact ⟨rfl, below_drewN ((Below.refl B w).alloc hw _) _⟩
end Go.Va.Vc

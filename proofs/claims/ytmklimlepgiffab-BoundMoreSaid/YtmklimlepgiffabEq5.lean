/- The functions that the statement reaches, by equations: no statement of its own. -/
import Derived.Test.YtmklimlepgiffabEq4
import Derived.IntWalk
import Derived.Carry
set_option linter.unusedVariables false
set_option linter.unusedSimpArgs false
set_option linter.unusedSectionVars false
set_option linter.unusedVariables false
namespace Go.Va.Vc
open Go.Va
open Go.Proofs Go.RowKit
/-- behind the key's count: the key's map has turned, and the place's mark -/
structure Keyed2 (w w2 : World) (B b g m : Nat) (c : CkS) (N : Int) (p : PlT) (r : List PlT) (cap : Nat) (cur : Array Value) (nm : Value) (o : Int) (a k : ByteArray) : Prop where
  size : w2.heap.size = w.heap.size + 1
  hb : w2.heap[b]? = w.heap[b]?
  hg : w2.heap[g]? = some (.cells (cur.setIfInBounds (r.length * 2 + 1) (.bool false)) 98 (0, 0))
  hi : w2.heap[w.heap.size]? = some (.cells #[.int .i64 o, .string a, .string k] 38 (0, 0))
  hm : MapIs w2 m (addK k p.2.1) (N + 1)
  ho : ∀ x, x ≠ g → x ≠ m → x < w.heap.size → w2.heap[x]? = w.heap[x]?
  os : w2.os = w.os
  tape : w2.tape = w.tape
  output : w2.output = w.output
theorem setCell_size (X : World) (q : Addr) (v : Value) : (X.setCell q v).heap.size = X.heap.size := by simp [World.setCell]
theorem alloc_size (X : World) (o : Go.Obj) : (X.alloc o).heap.size = X.heap.size + 1 := by show (X.heap.push _).size = _; simp
theorem keyed {w : World} {B b : Nat} {c : CkS} {N : Int} {p : PlT} {r : List PlT} {g cap : Nat} {cur : Array Value} {nm : Value} (h : CkAt w B b c N (p :: r) g cap cur nm) (o : Int) (a k : ByteArray) (v : Int) (hv1 : 1 ≤ v) (hv2 : v ≤ N + 1) (n : Nat) :
    ∃ w2, (Instr.mapUpdate 96 (.map (some p.1)) (.string k) (.int .i64 v)).run Try.prog ((allW w o a k g (r.length * 2 + 1) false).drewN n) = .ok () w2 ∧ Keyed2 w w2 B b g p.1 c N p r cap cur nm o a k := by
  obtain ⟨s1, s2⟩ := allW_heap h o a k false
  obtain ⟨m1, m2⟩ := h.hm p (by simp)
  have hpg := mapNe m2 h.hr
  have hpb := mapNe m2 h.hb
  have k3 : MapIs ((allW w o a k g (r.length * 2 + 1) false).drewN n) p.1 p.2.1 N := m2.mono (s2 p.1 hpg m2.lt) (Int.le_refl _)
  obtain ⟨w2, u1, u2, u3, u4, u5, u6, u7⟩ := update k3 t96 Try.underlying9 k hv1 hv2
  have hltg : g < w.heap.size := (Array.getElem?_eq_some_iff.1 h.hr).1
  have hsz : (allW w o a k g (r.length * 2 + 1) false).heap.size = w.heap.size + 1 := (setCell_size _ _ _).trans (by show (w.heap.push _).size = _; simp)
  have hins : (allW w o a k g (r.length * 2 + 1) false).heap[w.heap.size]? = some (.cells #[.int .i64 o, .string a, .string k] 38 (0, 0)) := by
    obtain ⟨-, q⟩ := set_b ((Lib.alloc_old w (.cells #[.int .i64 o, .string a, .string k] 38) g hltg).trans h.hr) (r.length * 2 + 1) (.bool false)
    rw [q _ (by omega)]
    exact heap_alloc_new w _
  exact ⟨w2, u1, u3.trans hsz, (u4 b hpb.symm).trans (s2 b h.ne h.lt), (u4 g hpg.symm).trans s1, (u4 _ (by have := m2.lt; omega)).trans hins, u2, fun x x1 x2 x3 => (u4 x x2).trans (s2 x x1 x3), u5, u6, u7⟩
/-- behind the new map of names -/
abbrev namW (w2 : World) (b m : Nat) : World := (w2.setCell ⟨b, 2, none⟩ (.map (some m))).alloc (.map #[] 0)
theorem named {w2 : World} {b n : Nat} {x y z : Value} {T : TypeId} (hb : w2.heap[b]? = some (.cells #[x, y, z] T (0, 0))) (hs : w2.heap.size = n + 1) (hlt : b < n) :
    (namW w2 b (n + 1)).heap[b]? = some (.cells #[x, y, .map (some (n + 1))] T (0, 0)) ∧ (∀ k, k ≠ b → k < w2.heap.size → (namW w2 b (n + 1)).heap[k]? = w2.heap[k]?) ∧ (namW w2 b (n + 1)).heap[n + 1]? = some (.map #[] 0) := by
  obtain ⟨t1, t2⟩ := set_b hb 2 (.map (some (n + 1)))
  have hs2 : (w2.setCell ⟨b, 2, none⟩ (.map (some (n + 1)))).heap.size = n + 1 := (setCell_size _ _ _).trans hs
  refine ⟨(Lib.alloc_old _ _ b (by omega)).trans t1, fun k k1 k2 => (Lib.alloc_old _ _ k (by omega)).trans (t2 k k1), ?_⟩
  have := heap_alloc_new (w2.setCell ⟨b, 2, none⟩ (.map (some (n + 1)))) (.map #[] 0)
  rw [hs2] at this
  exact this
theorem keyed_below {w w2 : World} {B b g m : Nat} {c : CkS} {N : Int} {p : PlT} {r : List PlT} {cap : Nat} {cur : Array Value} {nm : Value} {o : Int} {a k : ByteArray} (K : Keyed2 w w2 B b g m c N p r cap cur nm o a k) (hw : B ≤ w.heap.size) (hg : B ≤ g) (hm : B ≤ m) : Below B w w2 :=
  ⟨K.os, K.tape, K.output, by rw [K.size]; omega, fun x hx => K.ho x (by omega) (by omega) (by omega)⟩
theorem keyed_k38 {w w2 : World} {B b : Nat} {c : CkS} {N : Int} {p : PlT} {r : List PlT} {g cap : Nat} {cur : Array Value} {nm : Value} (h : CkAt w B b c N (p :: r) g cap cur nm) {o : Int} {a k : ByteArray} (K : Keyed2 w w2 B b g p.1 c N p r cap cur nm o a k) {w' : World} (ho : ∀ x, x ≠ b → x ≠ g → x < w2.heap.size → w'.heap[x]? = w2.heap[x]?) : K38 w w' := by
  intro x cs hx
  have hlt := (Array.getElem?_eq_some_iff.1 hx).1
  have hs := K.size
  have xg : x ≠ g := by rintro rfl; rw [h.hr] at hx; simp at hx
  have xb : x ≠ b := by rintro rfl; rw [h.hb] at hx; simp at hx
  have xp : x ≠ p.1 := by
    rintro rfl
    obtain ⟨_, _, z, -⟩ := (h.hm p (by simp)).2
    rw [z] at hx
    cases hx
  exact (ho x xb xg (by omega)).trans (K.ho x xg xp hlt)
theorem MapIs.empty {w : World} {m : Nat} (h : w.heap[m]? = some (.map #[] 0)) (N : Int) : MapIs w m [] N := ⟨_, _, h, rfl, by simp⟩
theorem keyed_ck {w w2 w' : World} {B b : Nat} {c : CkS} {N : Int} {p : PlT} {r : List PlT} {g cap : Nat} {cur : Array Value} {nm : Value} (h : CkAt w B b c N (p :: r) g cap cur nm) {o : Int} {a k : ByteArray} (K : Keyed2 w w2 B b g p.1 c N p r cap cur nm o a k) (hN : 0 ≤ N) (mn : Nat)
    (hb : w'.heap[b]? = some (.cells #[.slice (some ⟨g, 0, none⟩) (r.length + 1) cap, .int .i64 c.ahead, .map (some mn)] 101 (0, 0))) (hmn : w'.heap[mn]? = some (.map #[] 0)) (hm : w.heap.size < mn) (hw : B ≤ w.heap.size) (ho : ∀ x, x ≠ b → x < w2.heap.size → w'.heap[x]? = w2.heap[x]?) :
    CkAt w' B b { c with l := (addK k p.2.1, false) :: r.map Prod.snd, names := [] } (N + 1) ((p.1, addK k p.2.1, false) :: r) g cap (cur.setIfInBounds (r.length * 2 + 1) (.bool false)) (.map (some mn)) := by
  obtain ⟨m1, m2⟩ := h.hm p (by simp)
  have hpg := mapNe m2 h.hr
  have hpb := mapNe m2 h.hb
  have hltg : g < w.heap.size := (Array.getElem?_eq_some_iff.1 h.hr).1
  have hs := K.size
  have hnd := h.hnd
  simp only [List.map_cons, List.nodup_cons] at hnd
  have hcap := h.hcap
  have hsz := h.hsz
  simp only [List.length_cons] at hcap
  refine ⟨h.hB, hb, h.hg, (ho g h.ne.symm (by omega)).trans K.hg, h.hcap, h.hmax, by simpa using hsz, flat_set (by simp) (by simp only [List.length_cons]; omega) h.hcur false, rfl, by simp, h.hfew, ?_, ?_, fun _ => by simp, .inr ⟨mn, rfl, by omega, MapIs.empty hmn _, ?_⟩⟩
  · intro q hq
    rcases List.mem_cons.1 hq with rfl | hq
    · exact ⟨m1, K.hm.mono (ho _ hpb (by have := m2.lt; omega)) (Int.le_refl _)⟩
    · obtain ⟨q1, q2⟩ := h.hm q (by simp [hq])
      have hne : q.1 ≠ p.1 := fun e => hnd.1 (by rw [← e]; exact List.mem_map.2 ⟨q, hq, rfl⟩)
      have hqg := mapNe q2 h.hr
      have hqb := mapNe q2 h.hb
      exact ⟨q1, q2.mono ((ho _ hqb (by have := q2.lt; omega)).trans (K.ho _ hqg hne q2.lt)) (by omega)⟩
  · simp only [List.map_cons, List.nodup_cons]
    exact hnd
  · intro hq
    obtain ⟨q, hq1, hq2⟩ := List.mem_map.1 hq
    have : q.1 < w.heap.size := by
      rcases List.mem_cons.1 hq1 with rfl | hq1
      · exact m2.lt
      · exact (h.hm q (by simp [hq1])).2.lt
    omega
theorem info98 : (Try.prog.info? 98).map (fun i => (i.zero, i.size, i.bytes)) = some (some (.agg #[.map none, .bool false]), 2, 16) := by kernel_rfl
theorem CkAt.owns {w : World} {B b : Nat} {c : CkS} {N : Int} {pl : List PlT} {g cap : Nat} {cur : Array Value} {nm : Value} (h : CkAt w B b c N pl g cap cur nm) : w.ownsRow B 98 2 (.slice (some ⟨g, 0, none⟩) pl.length cap) pl.length (flat pl) :=
  ⟨by rw [flat_len]; omega, .inr ⟨g, cap, cur, rfl, h.hg, h.hr, h.hcap, h.hmax, h.hsz, h.hcur⟩⟩
/-- a new place -/
theorem CkAt.pushed {w w3 : World} {B b : Nat} {c : CkS} {N : Int} {pl : List PlT} {g cap : Nat} {cur : Array Value} {nm v' : Value} (h : CkAt w B b c N pl g cap cur nm) (mn : Nat) (hmn : w3.heap[mn]? = some (.map #[] 0)) (hn : w.heap.size ≤ mn) (hw : B ≤ w.heap.size)
    (ho : ∀ x, x ≠ g → x < w.heap.size → w3.heap[x]? = w.heap[x]?) (hown : w3.ownsRow B 98 2 v' (pl.length + 1) (flat pl ++ [.map (some mn), .bool false])) (hfew : pl.length ≤ 200) (hN : 0 ≤ N) (hq : nm ≠ .map none) :
    CkIsQ (w3.setCell ⟨b, 0, none⟩ v') B b { c with l := ([], false) :: c.l } N := by
  have hb3 : w3.heap[b]? = _ := (ho b h.ne h.lt).trans h.hb
  obtain ⟨s1, s2⟩ := set_b hb3 0 v'
  rcases hown.2 with ⟨-, h0⟩ | ⟨g', cap', cur', rfl, hg', hr', hc', hm', hs', ht'⟩
  · omega
  have hgb : g' ≠ b := by
    rintro rfl
    rw [hr'] at hb3
    simp at hb3
  refine ⟨(mn, [], false) :: pl, g', cap', cur', nm, ⟨h.hB, s1, hg', (s2 g' hgb).trans hr', hc', hm', hs', ht', by rw [h.hl]; rfl, by simp, by simp; omega, ?_, ?_, h.hel, ?_⟩, hq⟩
  · intro p hp
    rcases List.mem_cons.1 hp with rfl | hp
    · have hmb : mn ≠ b := by have := h.lt; omega
      exact ⟨by show B ≤ mn; omega, MapIs.empty ((s2 mn hmb).trans hmn) _⟩
    · obtain ⟨q1, q2⟩ := h.hm p hp
      exact ⟨q1, q2.mono ((s2 _ (mapNe q2 h.hb)).trans (ho _ (mapNe q2 h.hr) q2.lt)) (Int.le_refl _)⟩
  · rw [List.map_cons, List.nodup_cons]
    refine ⟨fun hq => ?_, h.hnd⟩
    obtain ⟨q, hq1, hq2⟩ := List.mem_map.1 hq
    have := (h.hm q hq1).2.lt
    simp only at hq2
    omega
  · rcases h.hnm with k | ⟨m, k1, k2, k3, k4⟩
    · exact .inl k
    · refine .inr ⟨m, k1, k2, k3.mono ((s2 _ (mapNe k3 h.hb)).trans (ho _ (mapNe k3 h.hr) k3.lt)) (Int.le_refl _), ?_⟩
      rw [List.map_cons, List.mem_cons]
      rintro (e | e)
      · have := k3.lt
        simp only at e
        omega
      · exact k4 e
set_option maxHeartbeats 4000000 in
set_option maxRecDepth 100000 in
theorem st_ok_A0 (w : World) (B b : Nat) (c : CkS) (N : Int) (a k : ByteArray) (hw : B ≤ w.heap.size) (p : PlT) (r : List PlT) (g cap : Nat) (cur : Array Value) (nm : Value) (h : CkAt w B b c N (p :: r) g cap cur nm) (hp2 : p.2.2 = false) (hN : 0 ≤ N) (hN2 : N ≤ 1000000) (hd : (r.length : Int) + 1 ≤ 8) : Calls Try.prog 100 #[.pointer (some ⟨b, 0, none⟩), .agg #[.int .i64 1, .string a, .string ⟨#[]⟩]] w fun e w' => e = .returned (errV 0) ∧ CkIsQ w' B b { c with l := ([], false) :: (addK ⟨#[]⟩ p.2.1, false) :: r.map Prod.snd, names := [] } (N + 1) ∧ Below B w w' ∧ K38 w w' := by
  have d0 := (insW_cell h 1 a ⟨#[]⟩ 0).trans h.c0
  have e0 := (insW_row h 1 a ⟨#[]⟩ (r.length * 2)).trans h.p0
  have e1 := (insW_row h 1 a ⟨#[]⟩ (r.length * 2 + 1)).trans h.p1
  rw [hp2] at e1
  have f1 : (insW w 1 a ⟨#[]⟩).frozen? ⟨g, r.length * 2 + 1, none⟩ = false := (World.frozen?_of_block (Lib.alloc_old w _ g (Array.getElem?_eq_some_iff.1 h.hr).1)).trans (h.fr _)
  have hfew : r.length + 1 ≤ 300 := h.hfew
  have hcap : r.length + 1 ≤ cap := h.hcap
  have hmax := h.hmax
  have i1 := wrapn r.length (by omega)
  obtain ⟨m1, m2⟩ := h.hm p (by simp)
  have hpg := mapNe m2 h.hr
  obtain ⟨v, v1, v2, v3, v4⟩ := look m2 hN t96 Try.underlying9 z3 ⟨#[]⟩
  have wv : IntKind.i64.wrap (v + 1) = v + 1 := by rw [IntKind.wrap_i64]; omega
  obtain ⟨s1, s2⟩ := allW_heap h 1 a ⟨#[]⟩ false
  have hmh : (insW w 1 a ⟨#[]⟩).heap[p.1]? = w.heap[p.1]? := Lib.alloc_old w _ p.1 m2.lt
  have hmh2 : (allW w 1 a ⟨#[]⟩ g (r.length * 2 + 1) false).heap[p.1]? = w.heap[p.1]? := s2 p.1 hpg m2.lt
  have lk1 := fun n => v1 ((insW w 1 a ⟨#[]⟩).drewN n) hmh
  have lk2 := fun n => v1 ((allW w 1 a ⟨#[]⟩ g (r.length * 2 + 1) false).drewN n) hmh2
  have q0 : (allW w 1 a ⟨#[]⟩ g (r.length * 2 + 1) false).cell? ⟨g, r.length * 2, none⟩ = some (.map (some p.1)) := by
    rw [Lib.cell_of_heap s1, Array.getElem?_setIfInBounds_ne (by omega)]
    exact h.cells.1
  have hup := keyed h 1 a ⟨#[]⟩ (v + 1) (by omega) (by omega)
  clear v1 hmh hmh2 s1 s2
  go_enter Try.func100, Try.ntmps100
  go_wp2
  go_quiet (fail)
  generalize nq = n0
  go_wp2
  go_quiet (fail)
  go_wp2
  change Code.wp _ _ _ _ ((allW w 1 a ⟨#[]⟩ g (r.length * 2 + 1) false).drewN _)
  obtain ⟨w2, u1, K⟩ := hup (n0 + nq + 1)
  clear hup
  have hmm := @run_makeMap Try.prog
  have hltb := h.lt
  have hs2 := K.size
  have hb2 := K.hb.trans h.hb
  have hb3 : (w2.alloc (.map #[] 0)).heap[b]? = _ := (Lib.alloc_old w2 (.map #[] 0) b (by omega)).trans hb2
  have x2 : (w2.alloc (.map #[] 0)).cell? ⟨b, 2, none⟩ = some nm := by rw [Lib.cell_of_heap hb3]; rfl
  have xf : (w2.alloc (.map #[] 0)).frozen? ⟨b, 2, none⟩ = false := Lib.frozen_of_heap hb3 2
  obtain ⟨t1, t2, t3⟩ := named hb2 hs2 hltb
  have hi4 : (namW w2 b (w.heap.size + 1)).heap[w.heap.size]? = _ := (t2 w.heap.size (by omega) (by omega)).trans K.hi
  have y0 : (namW w2 b (w.heap.size + 1)).cell? ⟨w.heap.size, 0, none⟩ = some (.int .i64 1) := by rw [Lib.cell_of_heap hi4]; rfl
  have y1 : (namW w2 b (w.heap.size + 1)).cell? ⟨b, 0, none⟩ = some (.slice (some ⟨g, 0, none⟩) (r.length + 1) cap) := by rw [Lib.cell_of_heap t1]; rfl
  have CN := keyed_ck h K hN (w.heap.size + 1) t1 t3 (by omega) hw (fun x x1 x2 => t2 x x1 x2)
  obtain ⟨i0, hi, hz0, hz1, hz2⟩ := info_parts info98
  have hown := (CN.owns.alloc (.map #[] 0)).alloc (.cells #[.map (some (w.heap.size + 1 + 1)), .bool false] 98)
  have hW5 : (namW w2 b (w.heap.size + 1)).heap.size = w.heap.size + 1 + 1 := by rw [alloc_size, setCell_size, hs2]
  have hW6 : ((namW w2 b (w.heap.size + 1)).alloc (.map #[] 0)).heap.size = w.heap.size + 1 + 1 + 1 := by rw [alloc_size, hW5]
  have hW7 : (((namW w2 b (w.heap.size + 1)).alloc (.map #[] 0)).alloc (.cells #[.map (some (w.heap.size + 1 + 1)), .bool false] 98)).heap.size = w.heap.size + 1 + 1 + 1 + 1 := by rw [alloc_size, hW6]
  have hX : (((namW w2 b (w.heap.size + 1)).alloc (.map #[] 0)).alloc (.cells #[.map (some (w.heap.size + 1 + 1)), .bool false] 98)).heap[w.heap.size + 1 + 1 + 1]? = some (.cells #[.map (some (w.heap.size + 1 + 1)), .bool false] 98 (0, 0)) := by
    have := heap_alloc_new ((namW w2 b (w.heap.size + 1)).alloc (.map #[] 0)) (.cells #[.map (some (w.heap.size + 1 + 1)), .bool false] 98)
    rw [hW6] at this
    exact this
  have hM : ((namW w2 b (w.heap.size + 1)).alloc (.map #[] 0)).heap[w.heap.size + 1 + 1]? = some (.map #[] 0) := by
    have := heap_alloc_new (namW w2 b (w.heap.size + 1)) (.map #[] 0)
    rw [hW5] at this
    exact this
  go_region
  go_wp2_with (at_builtin; refine wpList_append_own _ rfl _ _ 99 rfl B 98 i0 (.agg #[.map none, .bool false]) 2 16 Try.underlying99 hi hz0 hz1 hz2 rfl (by decide) _ _ _ rfl hown ⟨w.heap.size + 1 + 1 + 1, 0, none⟩ 1 1 [.map (some (w.heap.size + 1 + 1)), .bool false] rfl rfl ?c1 ?c2 ?c3 ?c4 ?c5 ?_)
  case c1 =>
    intro j u hj
    match j, hj with
    | 0, hj => simp at hj; subst hj; show World.cell? _ ⟨w.heap.size + 1 + 1 + 1, 0, none⟩ = _; rw [Lib.cell_of_heap hX]; rfl
    | 1, hj => simp at hj; subst hj; show World.cell? _ ⟨w.heap.size + 1 + 1 + 1, 1, none⟩ = _; rw [Lib.cell_of_heap hX]; rfl
  case c2 => intro u hu; simp at hu; rcases hu with rfl | rfl <;> rfl
  case c3 => unfold maxLen; simp only [List.length_cons]; omega
  case c4 => simp only [List.length_cons]; omega
  case c5 => rw [hW7]; omega
  intro v' w7 hown7 hgrow _
  have hbW : w7.heap[b]? = some (.cells #[.slice (some ⟨g, 0, none⟩) (r.length + 1) cap, .int .i64 c.ahead, .map (some (w.heap.size + 1))] 101 (0, 0)) := by
    rw [hgrow.block b (by rw [hW7]; omega) (by simp [Value.ownBlock]; exact h.ne), Lib.alloc_old _ _ b (by rw [hW6]; omega), Lib.alloc_old _ _ b (by rw [hW5]; omega)]
    exact t1
  have z0 : w7.cell? ⟨b, 0, none⟩ = some (.slice (some ⟨g, 0, none⟩) (r.length + 1) cap) := by rw [Lib.cell_of_heap hbW]; rfl
  have zf : w7.frozen? ⟨b, 0, none⟩ = false := Lib.frozen_of_heap hbW 0
  have hgX : ∀ x, x ≠ g → x < w.heap.size + 1 + 1 → w7.heap[x]? = (namW w2 b (w.heap.size + 1)).heap[x]? := by
    intro x hx hlt
    rw [hgrow.block x (by rw [hW7]; omega) (by simp [Value.ownBlock]; exact hx), Lib.alloc_old _ _ x (by rw [hW6]; omega), Lib.alloc_old _ _ x (by rw [hW5]; omega)]
  have hltg : g < w.heap.size := (Array.getElem?_eq_some_iff.1 h.hr).1
  have hmn7 : w7.heap[w.heap.size + 1 + 1]? = some (.map #[] 0) := by
    rw [hgrow.block _ (by rw [hW7]; omega) (by simp [Value.ownBlock]; omega), Lib.alloc_old _ _ _ (by rw [hW6]; omega)]
    exact hM
  have hfin := CN.pushed (w3 := w7) (v' := v') (w.heap.size + 1 + 1) hmn7 (by rw [hW5]; omega) (by rw [hW5]; omega) (fun x x1 x2 => hgX x x1 (by rw [hW5] at x2; exact x2)) hown7 (by simp only [List.length_cons]; omega) (by omega) (by simp)
  have hbel : Below B w w7 := ((((keyed_below K hw h.hg m1).setCell (p := ⟨b, 2, none⟩) h.hB (.map (some (w.heap.size + 1)))).alloc (by rw [setCell_size]; omega) (.map #[] 0)).alloc (by rw [hW5]; omega) (.map #[] 0)).alloc (by rw [hW6]; omega) (.cells #[.map (some (w.heap.size + 1 + 1)), .bool false] 98) |>.grown hgrow (by rw [hW7]; omega) (fun x hx => by simp [Value.ownBlock] at hx; rw [← hx]; exact h.hg)
  obtain ⟨g', cap', rfl⟩ : ∃ g' cap', v' = .slice (some ⟨g', 0, none⟩) (r.length + 1 + 1) cap' := by
    rcases hown7.2 with ⟨_, h0⟩ | ⟨g', cap', cur', hv, _⟩
    · simp at h0
    · exact ⟨g', cap', hv⟩
  clear hown hgrow hown7
  go_wp2
  go_ret
  exact ⟨rfl, hfin, hbel.setCell (p := ⟨b, 0, none⟩) h.hB _, keyed_k38 h K (fun x x1 x2 x3 => ((set_b hbW 0 _).2 x x1).trans ((hgX x x2 (by omega)).trans (t2 x x1 x3)))⟩
set_option maxHeartbeats 4000000 in
set_option maxRecDepth 100000 in
theorem st_ok_Ak (w : World) (B b : Nat) (c : CkS) (N : Int) (a k : ByteArray) (hw : B ≤ w.heap.size) (p : PlT) (r : List PlT) (g cap : Nat) (cur : Array Value) (nm : Value) (h : CkAt w B b c N (p :: r) g cap cur nm) (hp2 : p.2.2 = false) (hN : 0 ≤ N) (hN2 : N ≤ 1000000) (hk0 : k ≠ ⟨#[]⟩) (hk : hasK k p.2.1 = false) (hd : (r.length : Int) + 1 ≤ 8) : Calls Try.prog 100 #[.pointer (some ⟨b, 0, none⟩), .agg #[.int .i64 1, .string a, .string k]] w fun e w' => e = .returned (errV 0) ∧ CkIsQ w' B b { c with l := ([], false) :: (addK k p.2.1, false) :: r.map Prod.snd, names := [] } (N + 1) ∧ Below B w w' ∧ K38 w w' := by
  have d0 := (insW_cell h 1 a k 0).trans h.c0
  have e0 := (insW_row h 1 a k (r.length * 2)).trans h.p0
  have e1 := (insW_row h 1 a k (r.length * 2 + 1)).trans h.p1
  rw [hp2] at e1
  have f1 : (insW w 1 a k).frozen? ⟨g, r.length * 2 + 1, none⟩ = false := (World.frozen?_of_block (Lib.alloc_old w _ g (Array.getElem?_eq_some_iff.1 h.hr).1)).trans (h.fr _)
  have hfew : r.length + 1 ≤ 300 := h.hfew
  have hcap : r.length + 1 ≤ cap := h.hcap
  have hmax := h.hmax
  have i1 := wrapn r.length (by omega)
  obtain ⟨m1, m2⟩ := h.hm p (by simp)
  have hpg := mapNe m2 h.hr
  obtain ⟨v, v1, v2, v3, v4⟩ := look m2 hN t96 Try.underlying9 z3 k
  have v0 : v = 0 := by
    have : ¬ 0 < v := fun q => by rw [v2.1 q] at hk; cases hk
    omega
  subst v0
  have hemp : (!k.toList.isEmpty) = true := nempty hk0
  obtain ⟨s1, s2⟩ := allW_heap h 1 a k false
  have hmh : (insW w 1 a k).heap[p.1]? = w.heap[p.1]? := Lib.alloc_old w _ p.1 m2.lt
  have hmh2 : (allW w 1 a k g (r.length * 2 + 1) false).heap[p.1]? = w.heap[p.1]? := s2 p.1 hpg m2.lt
  have lk1 := fun n => v1 ((insW w 1 a k).drewN n) hmh
  have lk2 := fun n => v1 ((allW w 1 a k g (r.length * 2 + 1) false).drewN n) hmh2
  have q0 : (allW w 1 a k g (r.length * 2 + 1) false).cell? ⟨g, r.length * 2, none⟩ = some (.map (some p.1)) := by
    rw [Lib.cell_of_heap s1, Array.getElem?_setIfInBounds_ne (by omega)]
    exact h.cells.1
  have hup := keyed h 1 a k 1 (by omega) (by omega)
  clear v1 hmh hmh2 s1 s2
  go_enter Try.func100, Try.ntmps100
  go_wp2
  go_quiet (fail)
  generalize nq = n0
  go_wp2
  go_quiet (fail)
  go_wp2
  change Code.wp _ _ _ _ ((allW w 1 a k g (r.length * 2 + 1) false).drewN _)
  obtain ⟨w2, u1, K⟩ := hup (n0 + nq + 1)
  clear hup
  have hmm := @run_makeMap Try.prog
  have hltb := h.lt
  have hs2 := K.size
  have hb2 := K.hb.trans h.hb
  have hb3 : (w2.alloc (.map #[] 0)).heap[b]? = _ := (Lib.alloc_old w2 (.map #[] 0) b (by omega)).trans hb2
  have x2 : (w2.alloc (.map #[] 0)).cell? ⟨b, 2, none⟩ = some nm := by rw [Lib.cell_of_heap hb3]; rfl
  have xf : (w2.alloc (.map #[] 0)).frozen? ⟨b, 2, none⟩ = false := Lib.frozen_of_heap hb3 2
  obtain ⟨t1, t2, t3⟩ := named hb2 hs2 hltb
  have hi4 : (namW w2 b (w.heap.size + 1)).heap[w.heap.size]? = _ := (t2 w.heap.size (by omega) (by omega)).trans K.hi
  have y0 : (namW w2 b (w.heap.size + 1)).cell? ⟨w.heap.size, 0, none⟩ = some (.int .i64 1) := by rw [Lib.cell_of_heap hi4]; rfl
  have y1 : (namW w2 b (w.heap.size + 1)).cell? ⟨b, 0, none⟩ = some (.slice (some ⟨g, 0, none⟩) (r.length + 1) cap) := by rw [Lib.cell_of_heap t1]; rfl
  have CN := keyed_ck h K hN (w.heap.size + 1) t1 t3 (by omega) hw (fun x x1 x2 => t2 x x1 x2)
  obtain ⟨i0, hi, hz0, hz1, hz2⟩ := info_parts info98
  have hown := (CN.owns.alloc (.map #[] 0)).alloc (.cells #[.map (some (w.heap.size + 1 + 1)), .bool false] 98)
  have hW5 : (namW w2 b (w.heap.size + 1)).heap.size = w.heap.size + 1 + 1 := by rw [alloc_size, setCell_size, hs2]
  have hW6 : ((namW w2 b (w.heap.size + 1)).alloc (.map #[] 0)).heap.size = w.heap.size + 1 + 1 + 1 := by rw [alloc_size, hW5]
  have hW7 : (((namW w2 b (w.heap.size + 1)).alloc (.map #[] 0)).alloc (.cells #[.map (some (w.heap.size + 1 + 1)), .bool false] 98)).heap.size = w.heap.size + 1 + 1 + 1 + 1 := by rw [alloc_size, hW6]
  have hX : (((namW w2 b (w.heap.size + 1)).alloc (.map #[] 0)).alloc (.cells #[.map (some (w.heap.size + 1 + 1)), .bool false] 98)).heap[w.heap.size + 1 + 1 + 1]? = some (.cells #[.map (some (w.heap.size + 1 + 1)), .bool false] 98 (0, 0)) := by
    have := heap_alloc_new ((namW w2 b (w.heap.size + 1)).alloc (.map #[] 0)) (.cells #[.map (some (w.heap.size + 1 + 1)), .bool false] 98)
    rw [hW6] at this
    exact this
  have hM : ((namW w2 b (w.heap.size + 1)).alloc (.map #[] 0)).heap[w.heap.size + 1 + 1]? = some (.map #[] 0) := by
    have := heap_alloc_new (namW w2 b (w.heap.size + 1)) (.map #[] 0)
    rw [hW5] at this
    exact this
  go_region
  go_wp2_with (at_builtin; refine wpList_append_own _ rfl _ _ 99 rfl B 98 i0 (.agg #[.map none, .bool false]) 2 16 Try.underlying99 hi hz0 hz1 hz2 rfl (by decide) _ _ _ rfl hown ⟨w.heap.size + 1 + 1 + 1, 0, none⟩ 1 1 [.map (some (w.heap.size + 1 + 1)), .bool false] rfl rfl ?c1 ?c2 ?c3 ?c4 ?c5 ?_)
  case c1 =>
    intro j u hj
    match j, hj with
    | 0, hj => simp at hj; subst hj; show World.cell? _ ⟨w.heap.size + 1 + 1 + 1, 0, none⟩ = _; rw [Lib.cell_of_heap hX]; rfl
    | 1, hj => simp at hj; subst hj; show World.cell? _ ⟨w.heap.size + 1 + 1 + 1, 1, none⟩ = _; rw [Lib.cell_of_heap hX]; rfl
  case c2 => intro u hu; simp at hu; rcases hu with rfl | rfl <;> rfl
  case c3 => unfold maxLen; simp only [List.length_cons]; omega
  case c4 => simp only [List.length_cons]; omega
  case c5 => rw [hW7]; omega
  intro v' w7 hown7 hgrow _
  have hbW : w7.heap[b]? = some (.cells #[.slice (some ⟨g, 0, none⟩) (r.length + 1) cap, .int .i64 c.ahead, .map (some (w.heap.size + 1))] 101 (0, 0)) := by
    rw [hgrow.block b (by rw [hW7]; omega) (by simp [Value.ownBlock]; exact h.ne), Lib.alloc_old _ _ b (by rw [hW6]; omega), Lib.alloc_old _ _ b (by rw [hW5]; omega)]
    exact t1
  have z0 : w7.cell? ⟨b, 0, none⟩ = some (.slice (some ⟨g, 0, none⟩) (r.length + 1) cap) := by rw [Lib.cell_of_heap hbW]; rfl
  have zf : w7.frozen? ⟨b, 0, none⟩ = false := Lib.frozen_of_heap hbW 0
  have hgX : ∀ x, x ≠ g → x < w.heap.size + 1 + 1 → w7.heap[x]? = (namW w2 b (w.heap.size + 1)).heap[x]? := by
    intro x hx hlt
    rw [hgrow.block x (by rw [hW7]; omega) (by simp [Value.ownBlock]; exact hx), Lib.alloc_old _ _ x (by rw [hW6]; omega), Lib.alloc_old _ _ x (by rw [hW5]; omega)]
  have hltg : g < w.heap.size := (Array.getElem?_eq_some_iff.1 h.hr).1
  have hmn7 : w7.heap[w.heap.size + 1 + 1]? = some (.map #[] 0) := by
    rw [hgrow.block _ (by rw [hW7]; omega) (by simp [Value.ownBlock]; omega), Lib.alloc_old _ _ _ (by rw [hW6]; omega)]
    exact hM
  have hfin := CN.pushed (w3 := w7) (v' := v') (w.heap.size + 1 + 1) hmn7 (by rw [hW5]; omega) (by rw [hW5]; omega) (fun x x1 x2 => hgX x x1 (by rw [hW5] at x2; exact x2)) hown7 (by simp only [List.length_cons]; omega) (by omega) (by simp)
  have hbel : Below B w w7 := ((((keyed_below K hw h.hg m1).setCell (p := ⟨b, 2, none⟩) h.hB (.map (some (w.heap.size + 1)))).alloc (by rw [setCell_size]; omega) (.map #[] 0)).alloc (by rw [hW5]; omega) (.map #[] 0)).alloc (by rw [hW6]; omega) (.cells #[.map (some (w.heap.size + 1 + 1)), .bool false] 98) |>.grown hgrow (by rw [hW7]; omega) (fun x hx => by simp [Value.ownBlock] at hx; rw [← hx]; exact h.hg)
  obtain ⟨g', cap', rfl⟩ : ∃ g' cap', v' = .slice (some ⟨g', 0, none⟩) (r.length + 1 + 1) cap' := by
    rcases hown7.2 with ⟨_, h0⟩ | ⟨g', cap', cur', hv, _⟩
    · simp at h0
    · exact ⟨g', cap', hv⟩
  clear hown hgrow hown7
  go_wp2
  go_ret
  exact ⟨rfl, hfin, hbel.setCell (p := ⟨b, 0, none⟩) h.hB _, keyed_k38 h K (fun x x1 x2 x3 => ((set_b hbW 0 _).2 x x1).trans ((hgX x x2 (by omega)).trans (t2 x x1 x3)))⟩
set_option maxHeartbeats 4000000 in
set_option maxRecDepth 100000 in
theorem st_ok_B0 (w : World) (B b : Nat) (c : CkS) (N : Int) (a k : ByteArray) (hw : B ≤ w.heap.size) (p : PlT) (r : List PlT) (g cap : Nat) (cur : Array Value) (nm : Value) (h : CkAt w B b c N (p :: r) g cap cur nm) (hp2 : p.2.2 = false) (hN : 0 ≤ N) (hN2 : N ≤ 1000000) : Calls Try.prog 100 #[.pointer (some ⟨b, 0, none⟩), .agg #[.int .i64 3, .string a, .string ⟨#[]⟩]] w fun e w' => e = .returned (errV 0) ∧ CkIsQ w' B b { c with l := (addK ⟨#[]⟩ p.2.1, false) :: r.map Prod.snd, names := [] } (N + 1) ∧ Below B w w' ∧ K38 w w' := by
  have d0 := (insW_cell h 3 a ⟨#[]⟩ 0).trans h.c0
  have e0 := (insW_row h 3 a ⟨#[]⟩ (r.length * 2)).trans h.p0
  have e1 := (insW_row h 3 a ⟨#[]⟩ (r.length * 2 + 1)).trans h.p1
  rw [hp2] at e1
  have f1 : (insW w 3 a ⟨#[]⟩).frozen? ⟨g, r.length * 2 + 1, none⟩ = false := (World.frozen?_of_block (Lib.alloc_old w _ g (Array.getElem?_eq_some_iff.1 h.hr).1)).trans (h.fr _)
  have hfew : r.length + 1 ≤ 300 := h.hfew
  have hcap : r.length + 1 ≤ cap := h.hcap
  have hmax := h.hmax
  have i1 := wrapn r.length (by omega)
  obtain ⟨m1, m2⟩ := h.hm p (by simp)
  have hpg := mapNe m2 h.hr
  obtain ⟨v, v1, v2, v3, v4⟩ := look m2 hN t96 Try.underlying9 z3 ⟨#[]⟩
  have wv : IntKind.i64.wrap (v + 1) = v + 1 := by rw [IntKind.wrap_i64]; omega
  obtain ⟨s1, s2⟩ := allW_heap h 3 a ⟨#[]⟩ false
  have hmh : (insW w 3 a ⟨#[]⟩).heap[p.1]? = w.heap[p.1]? := Lib.alloc_old w _ p.1 m2.lt
  have hmh2 : (allW w 3 a ⟨#[]⟩ g (r.length * 2 + 1) false).heap[p.1]? = w.heap[p.1]? := s2 p.1 hpg m2.lt
  have lk1 := fun n => v1 ((insW w 3 a ⟨#[]⟩).drewN n) hmh
  have lk2 := fun n => v1 ((allW w 3 a ⟨#[]⟩ g (r.length * 2 + 1) false).drewN n) hmh2
  have q0 : (allW w 3 a ⟨#[]⟩ g (r.length * 2 + 1) false).cell? ⟨g, r.length * 2, none⟩ = some (.map (some p.1)) := by
    rw [Lib.cell_of_heap s1, Array.getElem?_setIfInBounds_ne (by omega)]
    exact h.cells.1
  have hup := keyed h 3 a ⟨#[]⟩ (v + 1) (by omega) (by omega)
  clear v1 hmh hmh2 s1 s2
  go_enter Try.func100, Try.ntmps100
  go_wp2
  go_quiet (fail)
  generalize nq = n0
  go_wp2
  go_quiet (fail)
  go_wp2
  change Code.wp _ _ _ _ ((allW w 3 a ⟨#[]⟩ g (r.length * 2 + 1) false).drewN _)
  obtain ⟨w2, u1, K⟩ := hup (n0 + nq + 1)
  clear hup
  have hmm := @run_makeMap Try.prog
  have hltb := h.lt
  have hs2 := K.size
  have hb2 := K.hb.trans h.hb
  have hb3 : (w2.alloc (.map #[] 0)).heap[b]? = _ := (Lib.alloc_old w2 (.map #[] 0) b (by omega)).trans hb2
  have x2 : (w2.alloc (.map #[] 0)).cell? ⟨b, 2, none⟩ = some nm := by rw [Lib.cell_of_heap hb3]; rfl
  have xf : (w2.alloc (.map #[] 0)).frozen? ⟨b, 2, none⟩ = false := Lib.frozen_of_heap hb3 2
  obtain ⟨t1, t2, t3⟩ := named hb2 hs2 hltb
  have hi4 : (namW w2 b (w.heap.size + 1)).heap[w.heap.size]? = _ := (t2 w.heap.size (by omega) (by omega)).trans K.hi
  have y0 : (namW w2 b (w.heap.size + 1)).cell? ⟨w.heap.size, 0, none⟩ = some (.int .i64 3) := by rw [Lib.cell_of_heap hi4]; rfl
  go_region
  go_wp2
  go_ret
  refine ⟨rfl, ⟨_, _, _, _, _, keyed_ck h K hN (w.heap.size + 1) t1 t3 (by omega) hw (fun x x1 x2 => t2 x x1 x2), by simp⟩, ?_, keyed_k38 h K (fun x x1 _ x2 => t2 x x1 x2)⟩
  exact ((keyed_below K hw h.hg m1).setCell (p := ⟨b, 2, none⟩) h.hB _).alloc (by rw [setCell_size]; omega) _
set_option maxHeartbeats 4000000 in
set_option maxRecDepth 100000 in
theorem st_ok_Bk (w : World) (B b : Nat) (c : CkS) (N : Int) (a k : ByteArray) (hw : B ≤ w.heap.size) (p : PlT) (r : List PlT) (g cap : Nat) (cur : Array Value) (nm : Value) (h : CkAt w B b c N (p :: r) g cap cur nm) (hp2 : p.2.2 = false) (hN : 0 ≤ N) (hN2 : N ≤ 1000000) (hk0 : k ≠ ⟨#[]⟩) (hk : hasK k p.2.1 = false) : Calls Try.prog 100 #[.pointer (some ⟨b, 0, none⟩), .agg #[.int .i64 3, .string a, .string k]] w fun e w' => e = .returned (errV 0) ∧ CkIsQ w' B b { c with l := (addK k p.2.1, false) :: r.map Prod.snd, names := [] } (N + 1) ∧ Below B w w' ∧ K38 w w' := by
  have d0 := (insW_cell h 3 a k 0).trans h.c0
  have e0 := (insW_row h 3 a k (r.length * 2)).trans h.p0
  have e1 := (insW_row h 3 a k (r.length * 2 + 1)).trans h.p1
  rw [hp2] at e1
  have f1 : (insW w 3 a k).frozen? ⟨g, r.length * 2 + 1, none⟩ = false := (World.frozen?_of_block (Lib.alloc_old w _ g (Array.getElem?_eq_some_iff.1 h.hr).1)).trans (h.fr _)
  have hfew : r.length + 1 ≤ 300 := h.hfew
  have hcap : r.length + 1 ≤ cap := h.hcap
  have hmax := h.hmax
  have i1 := wrapn r.length (by omega)
  obtain ⟨m1, m2⟩ := h.hm p (by simp)
  have hpg := mapNe m2 h.hr
  obtain ⟨v, v1, v2, v3, v4⟩ := look m2 hN t96 Try.underlying9 z3 k
  have v0 : v = 0 := by
    have : ¬ 0 < v := fun q => by rw [v2.1 q] at hk; cases hk
    omega
  subst v0
  have hemp : (!k.toList.isEmpty) = true := nempty hk0
  obtain ⟨s1, s2⟩ := allW_heap h 3 a k false
  have hmh : (insW w 3 a k).heap[p.1]? = w.heap[p.1]? := Lib.alloc_old w _ p.1 m2.lt
  have hmh2 : (allW w 3 a k g (r.length * 2 + 1) false).heap[p.1]? = w.heap[p.1]? := s2 p.1 hpg m2.lt
  have lk1 := fun n => v1 ((insW w 3 a k).drewN n) hmh
  have lk2 := fun n => v1 ((allW w 3 a k g (r.length * 2 + 1) false).drewN n) hmh2
  have q0 : (allW w 3 a k g (r.length * 2 + 1) false).cell? ⟨g, r.length * 2, none⟩ = some (.map (some p.1)) := by
    rw [Lib.cell_of_heap s1, Array.getElem?_setIfInBounds_ne (by omega)]
    exact h.cells.1
  have hup := keyed h 3 a k 1 (by omega) (by omega)
  clear v1 hmh hmh2 s1 s2
  go_enter Try.func100, Try.ntmps100
  go_wp2
  go_quiet (fail)
  generalize nq = n0
  go_wp2
  go_quiet (fail)
  go_wp2
  change Code.wp _ _ _ _ ((allW w 3 a k g (r.length * 2 + 1) false).drewN _)
  obtain ⟨w2, u1, K⟩ := hup (n0 + nq + 1)
  clear hup
  have hmm := @run_makeMap Try.prog
  have hltb := h.lt
  have hs2 := K.size
  have hb2 := K.hb.trans h.hb
  have hb3 : (w2.alloc (.map #[] 0)).heap[b]? = _ := (Lib.alloc_old w2 (.map #[] 0) b (by omega)).trans hb2
  have x2 : (w2.alloc (.map #[] 0)).cell? ⟨b, 2, none⟩ = some nm := by rw [Lib.cell_of_heap hb3]; rfl
  have xf : (w2.alloc (.map #[] 0)).frozen? ⟨b, 2, none⟩ = false := Lib.frozen_of_heap hb3 2
  obtain ⟨t1, t2, t3⟩ := named hb2 hs2 hltb
  have hi4 : (namW w2 b (w.heap.size + 1)).heap[w.heap.size]? = _ := (t2 w.heap.size (by omega) (by omega)).trans K.hi
  have y0 : (namW w2 b (w.heap.size + 1)).cell? ⟨w.heap.size, 0, none⟩ = some (.int .i64 3) := by rw [Lib.cell_of_heap hi4]; rfl
  go_region
  go_wp2
  go_ret
  refine ⟨rfl, ⟨_, _, _, _, _, keyed_ck h K hN (w.heap.size + 1) t1 t3 (by omega) hw (fun x x1 x2 => t2 x x1 x2), by simp⟩, ?_, keyed_k38 h K (fun x x1 _ x2 => t2 x x1 x2)⟩
  exact ((keyed_below K hw h.hg m1).setCell (p := ⟨b, 2, none⟩) h.hB _).alloc (by rw [setCell_size]; omega) _
end Go.Va.Vc
set_option linter.unusedVariables false
namespace Go.Va.Vc
open Go.Va
open Go.Proofs Go.RowKit
theorem CkAt.up {w : World} {B b : Nat} {c : CkS} {N N' : Int} {pl : List PlT} {g cap : Nat} {cur : Array Value} {nm : Value} (h : CkAt w B b c N pl g cap cur nm) (hN : N ≤ N') : CkAt w B b c N' pl g cap cur nm :=
  ⟨h.hB, h.hb, h.hg, h.hr, h.hcap, h.hmax, h.hsz, h.hcur, h.hl, h.hne, h.hfew, fun p hp => ⟨(h.hm p hp).1, (h.hm p hp).2.mono rfl hN⟩, h.hnd, h.hel, h.hnm.imp id fun ⟨m, k1, k2, k3, k4⟩ => ⟨m, k1, k2, k3.mono rfl hN, k4⟩⟩
theorem CkIs.up {w : World} {B b : Nat} {c : CkS} {N N' : Int} (h : CkIs w B b c N) (hN : N ≤ N') : CkIs w B b c N' := by
  obtain ⟨pl, g, cap, cur, nm, h⟩ := h
  exact ⟨pl, g, cap, cur, nm, h.up hN⟩
theorem CkIs.below {w w' : World} {B b : Nat} {c : CkS} {N : Int} (h : CkIs w B b c N) (k : Below w.heap.size w w') : CkIs w' B b c N := by
  obtain ⟨pl, g, cap, cur, nm, h⟩ := h
  have ltb := h.lt
  have ltg : g < w.heap.size := (Array.getElem?_eq_some_iff.1 h.hr).1
  exact ⟨pl, g, cap, cur, nm, h.hB, (k.block b ltb).trans h.hb, h.hg, (k.block g ltg).trans h.hr, h.hcap, h.hmax, h.hsz, h.hcur, h.hl, h.hne, h.hfew, fun p hp => ⟨(h.hm p hp).1, (h.hm p hp).2.mono (k.block _ (h.hm p hp).2.lt) (Int.le_refl _)⟩, h.hnd, h.hel, h.hnm.imp id fun ⟨m, k1, k2, k3, k4⟩ => ⟨m, k1, k2, k3.mono (k.block _ k3.lt) (Int.le_refl _), k4⟩⟩
theorem CkIs.lt {w : World} {B b : Nat} {c : CkS} {N : Int} (h : CkIs w B b c N) : b < w.heap.size := by
  obtain ⟨pl, g, cap, cur, nm, h⟩ := h
  exact h.lt
theorem c_attr (w : World) (B b : Nat) (c : CkS) (N : Int) (o : Int) (a k : ByteArray) (hw : B ≤ w.heap.size) (h : CkIs w B b c N) (hN : 0 ≤ N) : Calls Try.prog 98 #[.pointer (some ⟨b, 0, none⟩), .agg #[.int .i64 o, .string a, .string k]] w fun e w' => e = .returned (errV (ckAttr c a).1) ∧ ((ckAttr c a).1 = 0 → CkIsQ w' B b (ckAttr c a).2 (N + 1) ∧ K38 w w') ∧ Below B w w' := by
  unfold ckAttr
  cases he : (elemB c.ahead || tellsB c.ahead) with
  | false =>
    simp only [Bool.not_false, if_true]
    exact (c_attr_no w B b c N o a k hw h he).mono fun e w' q => ⟨q.1, (fun z => by cases z), q.2⟩
  | true =>
    simp only [Bool.not_true, Bool.false_eq_true, if_false]
    cases hk : hasK a c.names with
    | true =>
      simp only [if_true]
      exact (c_attr_has w B b c N o a k hw h he hN hk).mono fun e w' q => ⟨q.1, (fun z => by cases z), q.2⟩
    | false =>
      simp only [Bool.false_eq_true, if_false]
      by_cases hl : 8 ≤ c.names.length
      · simp only [hl, if_true]
        exact (c_attr_many w B b c N o a k hw h he hN hk hl).mono fun e w' q => ⟨q.1, (fun z => by cases z), q.2⟩
      · simp only [hl, if_false]
        exact (c_attr_ok w B b c N o a k hw h he hN hk (by omega)).mono fun e w' q => ⟨q.1, (fun _ => ⟨q.2.1, q.2.2.2⟩), q.2.2.1⟩
theorem c_stands (w : World) (B b : Nat) (c : CkS) (N : Int) (o : Int) (a k : ByteArray) (hw : B ≤ w.heap.size) (h : CkIs w B b c N) (hN : 0 ≤ N) (hN2 : N ≤ 1000000) : Calls Try.prog 100 #[.pointer (some ⟨b, 0, none⟩), .agg #[.int .i64 o, .string a, .string k]] w fun e w' => e = .returned (errV (ckStands c (o, a, k)).1) ∧ ((ckStands c (o, a, k)).1 = 0 → CkIs w' B b (ckStands c (o, a, k)).2 (N + 1) ∧ (elemB o = true → CkIsQ w' B b (ckStands c (o, a, k)).2 (N + 1)) ∧ K38 w w') ∧ Below B w w' := by
  obtain ⟨pl, g, cap, cur, nm, h⟩ := h
  cases hp : pl with
  | nil => exact (h.hne hp).elim
  | cons p r =>
    subst hp
    have hl : c.l = (p.2.1, p.2.2) :: r.map Prod.snd := h.hl
    have e : ckStands c (o, a, k) = (if p.2.2 then (11, c)
      else if elemB o && (!(k.data.toList == []) && hasK k p.2.1) then (10, c)
      else if decide (o = 1) && decide (8 < (r.map Prod.snd).length + 1) then (12, c)
      else if elemB o then (0, { c with l := (if o = 1 then ([], false) :: (addK k p.2.1, false) :: r.map Prod.snd else (addK k p.2.1, false) :: r.map Prod.snd), names := [] })
      else (0, { c with l := (p.2.1, decide (o = 7)) :: r.map Prod.snd })) := by
      unfold ckStands
      rw [hl]
    rw [e]
    have no : ∀ {n : Nat} {P : Ending → World → Prop}, True := fun {_} {_} => trivial
    by_cases h1 : o = 1
    · subst h1
      cases hp2 : p.2.2 with
      | true =>
        simp only [if_true]
        exact (st_all_A w B b c N a k hw p r g cap cur nm h hp2).mono fun e w' q => ⟨q.1, (fun z => by cases z), q.2⟩
      | false =>
        simp only [Bool.false_eq_true, if_false, show elemB 1 = true from rfl, Bool.true_and, decide_true, List.length_map, if_true]
        by_cases hk0 : k = ⟨#[]⟩
        · subst hk0
          simp only [show ((⟨#[]⟩ : ByteArray).data.toList == []) = true from rfl, Bool.not_true, Bool.false_and, Bool.false_eq_true, if_false]
          by_cases hd : 8 < r.length + 1
          · simp only [hd, decide_true, if_true]
            exact (st_deep_0 w B b c N a ⟨#[]⟩ hw p r g cap cur nm h hp2 (by omega)).mono fun e w' q => ⟨q.1, (fun z => by cases z), q.2⟩
          · simp only [hd, decide_false, Bool.false_eq_true, if_false]
            exact (st_ok_A0 w B b c N a ⟨#[]⟩ hw p r g cap cur nm h hp2 hN hN2 (by omega)).mono fun e w' q => ⟨q.1, (fun _ => ⟨q.2.1.is, fun _ => q.2.1, q.2.2.2⟩), q.2.2.1⟩
        · have hke : (k.data.toList == []) = false := by
            cases q : (k.data.toList == []) with
            | false => rfl
            | true =>
              exfalso
              apply hk0
              cases k with
              | mk d =>
                have : d.toList = [] := by simpa using q
                rw [show d = #[] from Array.ext' this]
          simp only [hke, Bool.not_false, Bool.true_and]
          cases hk : hasK k p.2.1 with
          | true =>
            simp only [if_true]
            exact (st_key_A w B b c N a k hw p r g cap cur nm h hp2 hk0 hN hk).mono fun e w' q => ⟨q.1, (fun z => by cases z), q.2⟩
          | false =>
            simp only [Bool.false_eq_true, if_false]
            by_cases hd : 8 < r.length + 1
            · simp only [hd, decide_true, if_true]
              exact (st_deep_k w B b c N a k hw p r g cap cur nm h hp2 (by omega) hk0 hN hk).mono fun e w' q => ⟨q.1, (fun z => by cases z), q.2⟩
            · simp only [hd, decide_false, Bool.false_eq_true, if_false]
              exact (st_ok_Ak w B b c N a k hw p r g cap cur nm h hp2 hN hN2 hk0 hk (by omega)).mono fun e w' q => ⟨q.1, (fun _ => ⟨q.2.1.is, fun _ => q.2.1, q.2.2.2⟩), q.2.2.1⟩
    · by_cases h3 : o = 3
      · subst h3
        cases hp2 : p.2.2 with
        | true =>
          simp only [if_true]
          exact (st_all_B w B b c N a k hw p r g cap cur nm h hp2).mono fun e w' q => ⟨q.1, (fun z => by cases z), q.2⟩
        | false =>
          simp only [Bool.false_eq_true, if_false, show elemB 3 = true from rfl, Bool.true_and, show decide ((3 : Int) = 1) = false from rfl, Bool.false_and, if_true, show ¬ ((3 : Int) = 1) by decide]
          by_cases hk0 : k = ⟨#[]⟩
          · subst hk0
            simp only [show ((⟨#[]⟩ : ByteArray).data.toList == []) = true from rfl, Bool.not_true, Bool.false_and, Bool.false_eq_true, if_false]
            exact (st_ok_B0 w B b c N a ⟨#[]⟩ hw p r g cap cur nm h hp2 hN hN2).mono fun e w' q => ⟨q.1, (fun _ => ⟨q.2.1.is, fun _ => q.2.1, q.2.2.2⟩), q.2.2.1⟩
          · have hke : (k.data.toList == []) = false := by
              cases q : (k.data.toList == []) with
              | false => rfl
              | true =>
                exfalso
                apply hk0
                cases k with
                | mk d =>
                  have : d.toList = [] := by simpa using q
                  rw [show d = #[] from Array.ext' this]
            simp only [hke, Bool.not_false, Bool.true_and]
            cases hk : hasK k p.2.1 with
            | true =>
              simp only [if_true]
              exact (st_key_B w B b c N a k hw p r g cap cur nm h hp2 hk0 hN hk).mono fun e w' q => ⟨q.1, (fun z => by cases z), q.2⟩
            | false =>
              simp only [Bool.false_eq_true, if_false]
              exact (st_ok_Bk w B b c N a k hw p r g cap cur nm h hp2 hN hN2 hk0 hk).mono fun e w' q => ⟨q.1, (fun _ => ⟨q.2.1.is, fun _ => q.2.1, q.2.2.2⟩), q.2.2.1⟩
      · have hel : elemB o = false := by simp [elemB, h1, h3]
        have ho1 : (o == 1) = false := by simp [h1]
        have ho3 : (o == 3) = false := by simp [h3]
        cases hp2 : p.2.2 with
        | true =>
          simp only [if_true]
          exact (st_all_C w B b c N o a k hw p r g cap cur nm h ho1 ho3 hp2).mono fun e w' q => ⟨q.1, (fun z => by cases z), q.2⟩
        | false =>
          simp only [Bool.false_eq_true, if_false, hel, Bool.false_and, h1, decide_false]
          refine (st_ok_C w B b c N o a k hw p r g cap cur nm h ho1 ho3 hp2).mono fun e w' q => ⟨q.1, fun _ => ?_, q.2.2.1⟩
          have := q.2.1.up (show N ≤ N + 1 by omega)
          rw [show (o == 7) = decide (o = 7) from Bool.beq_eq_decide_eq o 7] at this
          exact ⟨this, (fun z => z.elim), q.2.2.2⟩
end Go.Va.Vc
set_option linter.unusedVariables false
namespace Go.Va.Vc
open Go.Va
open Go.Proofs Go.RowKit
/-- what one instruction comes to -/
def OnePost (w : World) (B b : Nat) (N o : Int) (r : Nat × CkS) (e : Ending) (w' : World) : Prop := e = .returned (errV r.1) ∧ (r.1 = 0 → CkIs w' B b r.2 (N + 1) ∧ ((elemB o || tellsB o) = true → CkIsQ w' B b r.2 (N + 1)) ∧ K38 w w') ∧ Below B w w'
set_option maxHeartbeats 4000000 in
set_option maxRecDepth 100000 in
theorem c_one (w : World) (B b : Nat) (c : CkS) (N : Int) (o : Int) (a k : ByteArray) (may : Bool) (hw : B ≤ w.heap.size) (h : CkIs w B b c N) (hN : 0 ≤ N) (hN2 : N ≤ 1000000)
    (hMay : ∀ w1, Below B w w1 → Calls Try.prog 59 #[.agg #[.int .i64 o, .string a, .string k]] w1 fun e w' => e = .returned (.bool may) ∧ Below w1.heap.size w1 w') :
    Calls Try.prog 61 #[.pointer (some ⟨b, 0, none⟩), .agg #[.int .i64 o, .string a, .string k]] w (OnePost w B b N o (ckOne c may (o, a, k))) := by
  have hb1 : Below B w (insW w o a k) := (Below.refl B w).alloc hw _
  have h1 : CkIs (insW w o a k) B b c N := h.below ((Below.refl _ w).alloc (Nat.le_refl _) _)
  have hsz : (insW w o a k).heap.size = w.heap.size + 1 := alloc_size _ _
  have hins : (insW w o a k).heap[w.heap.size]? = some (.cells #[.int .i64 o, .string a, .string k] 38 (0, 0)) := heap_alloc_new w _
  have hk1 : K38 w (insW w o a k) := K38.of ((Below.refl _ w).alloc (Nat.le_refl _) _)
  have cells : ∀ w2, Below (insW w o a k).heap.size (insW w o a k) w2 → w2.cell? ⟨w.heap.size, 0, none⟩ = some (.int .i64 o) ∧ w2.cell? ⟨w.heap.size, 1, none⟩ = some (.string a) ∧ w2.cell? ⟨w.heap.size, 2, none⟩ = some (.string k) := by
    intro w2 hw2
    have := (hw2.block w.heap.size (by rw [hsz]; omega)).trans hins
    refine ⟨?_, ?_, ?_⟩ <;> (rw [Lib.cell_of_heap this]; rfl)
  cases may with
  | false =>
    have e : ckOne c false (o, a, k) = (7, c) := rfl
    rw [e]
    go_enter Try.func61, Try.ntmps61
    go_wp2_with (go_at_call 59; refine (hMay _ hb1).mono ?_; rintro e w2 ⟨rfl, hb2⟩)
    go_wp2
    go_ret
    exact ⟨rfl, (fun z => by cases z), hb1.trans (hb2.mono (by rw [hsz]; omega))⟩
  | true =>
    by_cases ht : o = 5 ∨ o = 6
    · have e : ckOne c true (o, a, k) = ckAttr c a := by
        unfold ckOne
        rw [show tellsB (o, a, k).1 = true from by unfold tellsB; rcases ht with rfl | rfl <;> rfl]
        rfl
      rw [e]
      rcases ht with rfl | rfl
      · go_enter Try.func61, Try.ntmps61
        go_wp2_with (first
          | (go_at_call 59; refine (hMay _ hb1).mono ?_; rintro e w2 ⟨rfl, hb2⟩; obtain ⟨q0, q1, q2⟩ := cells w2 hb2; have hbw2 := hb1.trans (hb2.mono (show B ≤ _ by rw [hsz]; omega)); have h2 := h1.below hb2; have hk2 := hk1.trans (K38.of hb2))
          | (go_at_call 98; refine (c_attr w2 B b c N _ a k (by have := hbw2.size; omega) h2 hN).mono ?_; rintro e w3 ⟨rfl, r1, r2⟩)
          | go_in)
        go_ret
        exact ⟨rfl, (fun z => ⟨(r1 z).1.is, fun _ => (r1 z).1, hk2.trans (r1 z).2⟩), hbw2.trans r2⟩
      · go_enter Try.func61, Try.ntmps61
        go_wp2_with (first
          | (go_at_call 59; refine (hMay _ hb1).mono ?_; rintro e w2 ⟨rfl, hb2⟩; obtain ⟨q0, q1, q2⟩ := cells w2 hb2; have hbw2 := hb1.trans (hb2.mono (show B ≤ _ by rw [hsz]; omega)); have h2 := h1.below hb2; have hk2 := hk1.trans (K38.of hb2))
          | (go_at_call 98; refine (c_attr w2 B b c N _ a k (by have := hbw2.size; omega) h2 hN).mono ?_; rintro e w3 ⟨rfl, r1, r2⟩)
          | go_in)
        go_ret
        exact ⟨rfl, (fun z => ⟨(r1 z).1.is, fun _ => (r1 z).1, hk2.trans (r1 z).2⟩), hbw2.trans r2⟩
    · have hte : tellsB (o, a, k).1 = false := by
        unfold tellsB
        simp only [not_or] at ht
        simp [ht.1, ht.2]
      have ho5 : (o == 5) = false := by simp only [not_or] at ht; simp [ht.1]
      have ho6 : (o == 6) = false := by simp only [not_or] at ht; simp [ht.2]
      by_cases h2 : o = 2
      · subst h2
        have e : ckOne c true (2, a, k) = ckEnds c := rfl
        rw [e]
        go_enter Try.func61, Try.ntmps61
        go_wp2_with (first
          | (go_at_call 59; refine (hMay _ hb1).mono ?_; rintro e w2 ⟨rfl, hb2⟩; obtain ⟨q0, q1, q2⟩ := cells w2 hb2; have hbw2 := hb1.trans (hb2.mono (show B ≤ _ by rw [hsz]; omega)); have h2 := h1.below hb2; have hk2 := hk1.trans (K38.of hb2))
          | (go_at_call 99; refine (c_ends w2 B b c N h2).mono ?_; rintro e w3 ⟨rfl, r1, r2⟩)
          | go_in)
        go_ret
        exact ⟨rfl, (fun _ => ⟨r1.up (by omega), (fun z => by cases z), hk2.trans r2.2⟩), hbw2.trans r2.1⟩
      · have ho2 : (o == 2) = false := by simp [h2]
        have e : ckOne c true (o, a, k) = ckStands c (o, a, k) := by
          unfold ckOne
          rw [hte]
          simp [h2]
        rw [e]
        go_enter Try.func61, Try.ntmps61
        go_wp2_with (first
          | (go_at_call 59; refine (hMay _ hb1).mono ?_; rintro e w2 ⟨rfl, hb2⟩; obtain ⟨q0, q1, q2⟩ := cells w2 hb2; have hbw2 := hb1.trans (hb2.mono (show B ≤ _ by rw [hsz]; omega)); have h2 := h1.below hb2; have hk2 := hk1.trans (K38.of hb2))
          | (go_at_call 100; refine (c_stands w2 B b c N o a k (by have := hbw2.size; omega) h2 hN hN2).mono ?_; rintro e w3 ⟨rfl, r1, r2⟩)
          | go_in)
        go_ret
        exact ⟨rfl, (fun z => ⟨(r1 z).1, fun y => (r1 z).2.1 (by rw [show tellsB o = false from hte, Bool.or_false] at y; exact y), hk2.trans (r1 z).2.2⟩), hbw2.trans r2⟩
end Go.Va.Vc

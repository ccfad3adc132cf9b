/- The functions that the statement reaches, by equations: no statement of its own. -/
import Derived.Test.YtmklimlepgiffabEq4
import Derived.IntWalk
import Derived.Carry
set_option linter.unusedVariables false
set_option linter.unusedSimpArgs false
set_option linter.unusedSectionVars false
set_option linter.unusedVariables false
namespace Go.Va.Vc
open Go.Va
open Go.Proofs Go.RowKit
/-- behind the key's count: the key's map has turned, and the place's mark -/
structure Keyed2 (w w2 : World) (B b g m : Nat) (c : CkS) (N : Int) (p : PlT) (r : List PlT) (cap : Nat) (cur : Array Value) (nm : Value) (o : Int) (a k : ByteArray) : Prop where
  size : w2.heap.size = w.heap.size + 1
  hb : w2.heap[b]? = w.heap[b]?
  hg : w2.heap[g]? = some (.cells (cur.setIfInBounds (r.length * 2 + 1) (.bool false)) 98 (0, 0))
  hi : w2.heap[w.heap.size]? = some (.cells #[.int .i64 o, .string a, .string k] 38 (0, 0))
  hm : MapIs w2 m (addK k p.2.1) (N + 1)
  ho : ∀ x, x ≠ g → x ≠ m → x < w.heap.size → w2.heap[x]? = w.heap[x]?
  os : w2.os = w.os
  tape : w2.tape = w.tape
  output : w2.output = w.output
theorem setCell_size (X : World) (q : Addr) (v : Value) : (X.setCell q v).heap.size = X.heap.size := by simp [World.setCell]
theorem alloc_size (X : World) (o : Go.Obj) : (X.alloc o).heap.size = X.heap.size + 1 := by show (X.heap.push _).size = _; simp
theorem keyed {w : World} {B b : Nat} {c : CkS} {N : Int} {p : PlT} {r : List PlT} {g cap : Nat} {cur : Array Value} {nm : Value} (h : CkAt w B b c N (p :: r) g cap cur nm) (o : Int) (a k : ByteArray) (v : Int) (hv1 : 1 ≤ v) (hv2 : v ≤ N + 1) (n : Nat) :
    ∃ w2, (Instr.mapUpdate 96 (.map (some p.1)) (.string k) (.int .i64 v)).run Try.prog ((allW w o a k g (r.length * 2 + 1) false).drewN n) = .ok () w2 ∧ Keyed2 w w2 B b g p.1 c N p r cap cur nm o a k := by
  obtain ⟨s1, s2⟩ := allW_heap h o a k false
  obtain ⟨m1, m2⟩ := h.hm p (by simp)
  have hpg := mapNe m2 h.hr
  have hpb := mapNe m2 h.hb
  have k3 : MapIs ((allW w o a k g (r.length * 2 + 1) false).drewN n) p.1 p.2.1 N := m2.mono (s2 p.1 hpg m2.lt) (Int.le_refl _)
  obtain ⟨w2, u1, u2, u3, u4, u5, u6, u7⟩ := update k3 t96 Try.underlying9 k hv1 hv2
  have hltg : g < w.heap.size := (Array.getElem?_eq_some_iff.1 h.hr).1
  have hsz : (allW w o a k g (r.length * 2 + 1) false).heap.size = w.heap.size + 1 := (setCell_size _ _ _).trans (by show (w.heap.push _).size = _; simp)
  have hins : (allW w o a k g (r.length * 2 + 1) false).heap[w.heap.size]? = some (.cells #[.int .i64 o, .string a, .string k] 38 (0, 0)) := by
    obtain ⟨-, q⟩ := set_b ((Lib.alloc_old w (.cells #[.int .i64 o, .string a, .string k] 38) g hltg).trans h.hr) (r.length * 2 + 1) (.bool false)
    rw [q _ (by omega)]
    exact heap_alloc_new w _
  exact ⟨w2, u1, u3.trans hsz, (u4 b hpb.symm).trans (s2 b h.ne h.lt), (u4 g hpg.symm).trans s1, (u4 _ (by have := m2.lt; omega)).trans hins, u2, fun x x1 x2 x3 => (u4 x x2).trans (s2 x x1 x3), u5, u6, u7⟩
/-- behind the new map of names -/
abbrev namW (w2 : World) (b m : Nat) : World := (w2.setCell ⟨b, 2, none⟩ (.map (some m))).alloc (.map #[] 0)
theorem named {w2 : World} {b n : Nat} {x y z : Value} {T : TypeId} (hb : w2.heap[b]? = some (.cells #[x, y, z] T (0, 0))) (hs : w2.heap.size = n + 1) (hlt : b < n) :
    (namW w2 b (n + 1)).heap[b]? = some (.cells #[x, y, .map (some (n + 1))] T (0, 0)) ∧ (∀ k, k ≠ b → k < w2.heap.size → (namW w2 b (n + 1)).heap[k]? = w2.heap[k]?) ∧ (namW w2 b (n + 1)).heap[n + 1]? = some (.map #[] 0) := by
  obtain ⟨t1, t2⟩ := set_b hb 2 (.map (some (n + 1)))
  have hs2 : (w2.setCell ⟨b, 2, none⟩ (.map (some (n + 1)))).heap.size = n + 1 := (setCell_size _ _ _).trans hs
  refine ⟨(Lib.alloc_old _ _ b (by omega)).trans t1, fun k k1 k2 => (Lib.alloc_old _ _ k (by omega)).trans (t2 k k1), ?_⟩
  have := heap_alloc_new (w2.setCell ⟨b, 2, none⟩ (.map (some (n + 1)))) (.map #[] 0)
  rw [hs2] at this
  exact this
theorem keyed_below {w w2 : World} {B b g m : Nat} {c : CkS} {N : Int} {p : PlT} {r : List PlT} {cap : Nat} {cur : Array Value} {nm : Value} {o : Int} {a k : ByteArray} (K : Keyed2 w w2 B b g m c N p r cap cur nm o a k) (hw : B ≤ w.heap.size) (hg : B ≤ g) (hm : B ≤ m) : Below B w w2 :=
  ⟨K.os, K.tape, K.output, by rw [K.size]; omega, fun x hx => K.ho x (by omega) (by omega) (by omega)⟩
theorem keyed_k38 {w w2 : World} {B b : Nat} {c : CkS} {N : Int} {p : PlT} {r : List PlT} {g cap : Nat} {cur : Array Value} {nm : Value} (h : CkAt w B b c N (p :: r) g cap cur nm) {o : Int} {a k : ByteArray} (K : Keyed2 w w2 B b g p.1 c N p r cap cur nm o a k) {w' : World} (ho : ∀ x, x ≠ b → x ≠ g → x < w2.heap.size → w'.heap[x]? = w2.heap[x]?) : K38 w w' := by
  intro x cs hx
  have hlt := (Array.getElem?_eq_some_iff.1 hx).1
  have hs := K.size
  have xg : x ≠ g := by rintro rfl; rw [h.hr] at hx; simp at hx
  have xb : x ≠ b := by rintro rfl; rw [h.hb] at hx; simp at hx
  have xp : x ≠ p.1 := by
    rintro rfl
    obtain ⟨_, _, z, -⟩ := (h.hm p (by simp)).2
    rw [z] at hx
    cases hx
  exact (ho x xb xg (by omega)).trans (K.ho x xg xp hlt)
theorem MapIs.empty {w : World} {m : Nat} (h : w.heap[m]? = some (.map #[] 0)) (N : Int) : MapIs w m [] N := ⟨_, _, h, rfl, by simp⟩
theorem keyed_ck {w w2 w' : World} {B b : Nat} {c : CkS} {N : Int} {p : PlT} {r : List PlT} {g cap : Nat} {cur : Array Value} {nm : Value} (h : CkAt w B b c N (p :: r) g cap cur nm) {o : Int} {a k : ByteArray} (K : Keyed2 w w2 B b g p.1 c N p r cap cur nm o a k) (hN : 0 ≤ N) (mn : Nat)
    (hb : w'.heap[b]? = some (.cells #[.slice (some ⟨g, 0, none⟩) (r.length + 1) cap, .int .i64 c.ahead, .map (some mn)] 101 (0, 0))) (hmn : w'.heap[mn]? = some (.map #[] 0)) (hm : w.heap.size < mn) (hw : B ≤ w.heap.size) (ho : ∀ x, x ≠ b → x < w2.heap.size → w'.heap[x]? = w2.heap[x]?) :
    CkAt w' B b { c with l := (addK k p.2.1, false) :: r.map Prod.snd, names := [] } (N + 1) ((p.1, addK k p.2.1, false) :: r) g cap (cur.setIfInBounds (r.length * 2 + 1) (.bool false)) (.map (some mn)) := by
  obtain ⟨m1, m2⟩ := h.hm p (by simp)
  have hpg := mapNe m2 h.hr
  have hpb := mapNe m2 h.hb
  have hltg : g < w.heap.size := (Array.getElem?_eq_some_iff.1 h.hr).1
  have hs := K.size
  have hnd := h.hnd
  simp only [List.map_cons, List.nodup_cons] at hnd
  have hcap := h.hcap
  have hsz := h.hsz
  simp only [List.length_cons] at hcap
  refine ⟨h.hB, hb, h.hg, (ho g h.ne.symm (by omega)).trans K.hg, h.hcap, h.hmax, by simpa using hsz, flat_set (by simp) (by simp only [List.length_cons]; omega) h.hcur false, rfl, by simp, h.hfew, ?_, ?_, fun _ => by simp, .inr ⟨mn, rfl, by omega, MapIs.empty hmn _, ?_⟩⟩
  · intro q hq
    rcases List.mem_cons.1 hq with rfl | hq
    · exact ⟨m1, K.hm.mono (ho _ hpb (by have := m2.lt; omega)) (Int.le_refl _)⟩
    · obtain ⟨q1, q2⟩ := h.hm q (by simp [hq])
      have hne : q.1 ≠ p.1 := fun e => hnd.1 (by rw [← e]; exact List.mem_map.2 ⟨q, hq, rfl⟩)
      have hqg := mapNe q2 h.hr
      have hqb := mapNe q2 h.hb
      exact ⟨q1, q2.mono ((ho _ hqb (by have := q2.lt; omega)).trans (K.ho _ hqg hne q2.lt)) (by omega)⟩
  · simp only [List.map_cons, List.nodup_cons]
    exact hnd
  · intro hq
    obtain ⟨q, hq1, hq2⟩ := List.mem_map.1 hq
    have : q.1 < w.heap.size := by
      rcases List.mem_cons.1 hq1 with rfl | hq1
      · exact m2.lt
      · exact (h.hm q (by simp [hq1])).2.lt
    omega
theorem info98 : (Try.prog.info? 98).map (fun i => (i.zero, i.size, i.bytes)) = some (some (.agg #[.map none, .bool false]), 2, 16) := by kernel_rfl
theorem CkAt.owns {w : World} {B b : Nat} {c : CkS} {N : Int} {pl : List PlT} {g cap : Nat} {cur : Array Value} {nm : Value} (h : CkAt w B b c N pl g cap cur nm) : w.ownsRow B 98 2 (.slice (some ⟨g, 0, none⟩) pl.length cap) pl.length (flat pl) :=
  ⟨by rw [flat_len]; omega, .inr ⟨g, cap, cur, rfl, h.hg, h.hr, h.hcap, h.hmax, h.hsz, h.hcur⟩⟩
/-- a new place -/
theorem CkAt.pushed {w w3 : World} {B b : Nat} {c : CkS} {N : Int} {pl : List PlT} {g cap : Nat} {cur : Array Value} {nm v' : Value} (h : CkAt w B b c N pl g cap cur nm) (mn : Nat) (hmn : w3.heap[mn]? = some (.map #[] 0)) (hn : w.heap.size ≤ mn) (hw : B ≤ w.heap.size)
    (ho : ∀ x, x ≠ g → x < w.heap.size → w3.heap[x]? = w.heap[x]?) (hown : w3.ownsRow B 98 2 v' (pl.length + 1) (flat pl ++ [.map (some mn), .bool false])) (hfew : pl.length ≤ 200) (hN : 0 ≤ N) (hq : nm ≠ .map none) :
    CkIsQ (w3.setCell ⟨b, 0, none⟩ v') B b { c with l := ([], false) :: c.l } N := by
  have hb3 : w3.heap[b]? = _ := (ho b h.ne h.lt).trans h.hb
  obtain ⟨s1, s2⟩ := set_b hb3 0 v'
  rcases hown.2 with ⟨-, h0⟩ | ⟨g', cap', cur', rfl, hg', hr', hc', hm', hs', ht'⟩
  · omega
  have hgb : g' ≠ b := by
    rintro rfl
    rw [hr'] at hb3
    simp at hb3
  refine ⟨(mn, [], false) :: pl, g', cap', cur', nm, ⟨h.hB, s1, hg', (s2 g' hgb).trans hr', hc', hm', hs', ht', by rw [h.hl]; rfl, by simp, by simp; omega, ?_, ?_, h.hel, ?_⟩, hq⟩
  · intro p hp
    rcases List.mem_cons.1 hp with rfl | hp
    · have hmb : mn ≠ b := by have := h.lt; omega
      exact ⟨by show B ≤ mn; omega, MapIs.empty ((s2 mn hmb).trans hmn) _⟩
    · obtain ⟨q1, q2⟩ := h.hm p hp
      exact ⟨q1, q2.mono ((s2 _ (mapNe q2 h.hb)).trans (ho _ (mapNe q2 h.hr) q2.lt)) (Int.le_refl _)⟩
  · rw [List.map_cons, List.nodup_cons]
    refine ⟨fun hq => ?_, h.hnd⟩
    obtain ⟨q, hq1, hq2⟩ := List.mem_map.1 hq
    have := (h.hm q hq1).2.lt
    simp only at hq2
    omega
  · rcases h.hnm with k | ⟨m, k1, k2, k3, k4⟩
    · exact .inl k
    · refine .inr ⟨m, k1, k2, k3.mono ((s2 _ (mapNe k3 h.hb)).trans (ho _ (mapNe k3 h.hr) k3.lt)) (Int.le_refl _), ?_⟩
      rw [List.map_cons, List.mem_cons]
      rintro (e | e)
      · have := k3.lt
        simp only at e
        omega
      · exact k4 e
set_option maxHeartbeats 4000000 in
set_option maxRecDepth 100000 in
theorem st_ok_A0 (w : World) (B b : Nat) (c : CkS) (N : Int) (a k : ByteArray) (hw : B ≤ w.heap.size) (p : PlT) (r : List PlT) (g cap : Nat) (cur : Array Value) (nm : Value) (h : CkAt w B b c N (p :: r) g cap cur nm) (hp2 : p.2.2 = false) (hN : 0 ≤ N) (hN2 : N ≤ 1000000) (hd : (r.length : Int) + 1 ≤ 8) : Calls Try.prog 100 #[.pointer (some ⟨b, 0, none⟩), .agg #[.int .i64 1, .string a, .string ⟨#[]⟩]] w fun e w' => e = .returned (errV 0) ∧ CkIsQ w' B b { c with l := ([], false) :: (addK ⟨#[]⟩ p.2.1, false) :: r.map Prod.snd, names := [] } (N + 1) ∧ Below B w w' ∧ K38 w w' := by
  have d0 := (insW_cell h 1 a ⟨#[]⟩ 0).trans h.c0
  have e0 := (insW_row h 1 a ⟨#[]⟩ (r.length * 2)).trans h.p0
  have e1 := (insW_row h 1 a ⟨#[]⟩ (r.length * 2 + 1)).trans h.p1
  rw [hp2] at e1
  have f1 : (insW w 1 a ⟨#[]⟩).frozen? ⟨g, r.length * 2 + 1, none⟩ = false := (World.frozen?_of_block (Lib.alloc_old w _ g (Array.getElem?_eq_some_iff.1 h.hr).1)).trans (h.fr _)
  have hfew : r.length + 1 ≤ 300 := h.hfew
  have hcap : r.length + 1 ≤ cap := h.hcap
  have hmax := h.hmax
  have i1 := wrapn r.length (by omega)
  obtain ⟨m1, m2⟩ := h.hm p (by simp)
  have hpg := mapNe m2 h.hr
  obtain ⟨v, v1, v2, v3, v4⟩ := look m2 hN t96 Try.underlying9 z3 ⟨#[]⟩
  have wv : IntKind.i64.wrap (v + 1) = v + 1 := by rw [IntKind.wrap_i64]; omega
  obtain ⟨s1, s2⟩ := allW_heap h 1 a ⟨#[]⟩ false
  have hmh : (insW w 1 a ⟨#[]⟩).heap[p.1]? = w.heap[p.1]? := Lib.alloc_old w _ p.1 m2.lt
  have hmh2 : (allW w 1 a ⟨#[]⟩ g (r.length * 2 + 1) false).heap[p.1]? = w.heap[p.1]? := s2 p.1 hpg m2.lt
  have lk1 := fun n => v1 ((insW w 1 a ⟨#[]⟩).drewN n) hmh
  have lk2 := fun n => v1 ((allW w 1 a ⟨#[]⟩ g (r.length * 2 + 1) false).drewN n) hmh2
  have q0 : (allW w 1 a ⟨#[]⟩ g (r.length * 2 + 1) false).cell? ⟨g, r.length * 2, none⟩ = some (.map (some p.1)) := by
    rw [Lib.cell_of_heap s1, Array.getElem?_setIfInBounds_ne (by omega)]
    exact h.cells.1
  have hup := keyed h 1 a ⟨#[]⟩ (v + 1) (by omega) (by omega)
  clear v1 hmh hmh2 s1 s2
  go_enter Try.func100, Try.ntmps100
  go_wp2
  go_quiet (fail)
  generalize nq = n0
  go_wp2
  go_quiet (fail)
  go_wp2
  change Code.wp _ _ _ _ ((allW w 1 a ⟨#[]⟩ g (r.length * 2 + 1) false).drewN _)
  obtain ⟨w2, u1, K⟩ := hup (n0 + nq + 1)
  clear hup
  have hmm := @run_makeMap Try.prog
  have hltb := h.lt
  have hs2 := K.size
  have hb2 := K.hb.trans h.hb
  have hb3 : (w2.alloc (.map #[] 0)).heap[b]? = _ := (Lib.alloc_old w2 (.map #[] 0) b (by omega)).trans hb2
  have x2 : (w2.alloc (.map #[] 0)).cell? ⟨b, 2, none⟩ = some nm := by rw [Lib.cell_of_heap hb3]; rfl
  have xf : (w2.alloc (.map #[] 0)).frozen? ⟨b, 2, none⟩ = false := Lib.frozen_of_heap hb3 2
  obtain ⟨t1, t2, t3⟩ := named hb2 hs2 hltb
  have hi4 : (namW w2 b (w.heap.size + 1)).heap[w.heap.size]? = _ := (t2 w.heap.size (by omega) (by omega)).trans K.hi
  have y0 : (namW w2 b (w.heap.size + 1)).cell? ⟨w.heap.size, 0, none⟩ = some (.int .i64 1) := by rw [Lib.cell_of_heap hi4]; rfl
  have y1 : (namW w2 b (w.heap.size + 1)).cell? ⟨b, 0, none⟩ = some (.slice (some ⟨g, 0, none⟩) (r.length + 1) cap) := by rw [Lib.cell_of_heap t1]; rfl
  have CN := keyed_ck h K hN (w.heap.size + 1) t1 t3 (by omega) hw (fun x x1 x2 => t2 x x1 x2)
  obtain ⟨i0, hi, hz0, hz1, hz2⟩ := info_parts info98
  have hown := (CN.owns.alloc (.map #[] 0)).alloc (.cells #[.map (some (w.heap.size + 1 + 1)), .bool false] 98)
  have hW5 : (namW w2 b (w.heap.size + 1)).heap.size = w.heap.size + 1 + 1 := by rw [alloc_size, setCell_size, hs2]
  have hW6 : ((namW w2 b (w.heap.size + 1)).alloc (.map #[] 0)).heap.size = w.heap.size + 1 + 1 + 1 := by rw [alloc_size, hW5]
  have hW7 : (((namW w2 b (w.heap.size + 1)).alloc (.map #[] 0)).alloc (.cells #[.map (some (w.heap.size + 1 + 1)), .bool false] 98)).heap.size = w.heap.size + 1 + 1 + 1 + 1 := by rw [alloc_size, hW6]
  have hX : (((namW w2 b (w.heap.size + 1)).alloc (.map #[] 0)).alloc (.cells #[.map (some (w.heap.size + 1 + 1)), .bool false] 98)).heap[w.heap.size + 1 + 1 + 1]? = some (.cells #[.map (some (w.heap.size + 1 + 1)), .bool false] 98 (0, 0)) := by
    have := heap_alloc_new ((namW w2 b (w.heap.size + 1)).alloc (.map #[] 0)) (.cells #[.map (some (w.heap.size + 1 + 1)), .bool false] 98)
    rw [hW6] at this
    exact this
  have hM : ((namW w2 b (w.heap.size + 1)).alloc (.map #[] 0)).heap[w.heap.size + 1 + 1]? = some (.map #[] 0) := by
    have := heap_alloc_new (namW w2 b (w.heap.size + 1)) (.map #[] 0)
    rw [hW5] at this
    exact this
  go_region
  go_wp2_with (at_builtin; refine wpList_append_own _ rfl _ _ 99 rfl B 98 i0 (.agg #[.map none, .bool false]) 2 16 Try.underlying99 hi hz0 hz1 hz2 rfl (by decide) _ _ _ rfl hown ⟨w.heap.size + 1 + 1 + 1, 0, none⟩ 1 1 [.map (some (w.heap.size + 1 + 1)), .bool false] rfl rfl ?c1 ?c2 ?c3 ?c4 ?c5 ?_)
  case c1 =>
    intro j u hj
    match j, hj with
    | 0, hj => simp at hj; subst hj; show World.cell? _ ⟨w.heap.size + 1 + 1 + 1, 0, none⟩ = _; rw [Lib.cell_of_heap hX]; rfl
    | 1, hj => simp at hj; subst hj; show World.cell? _ ⟨w.heap.size + 1 + 1 + 1, 1, none⟩ = _; rw [Lib.cell_of_heap hX]; rfl
  case c2 => intro u hu; simp at hu; rcases hu with rfl | rfl <;> rfl
  case c3 => unfold maxLen; simp only [List.length_cons]; omega
  case c4 => simp only [List.length_cons]; omega
  case c5 => rw [hW7]; omega
  intro v' w7 hown7 hgrow _
  have hbW : w7.heap[b]? = some (.cells #[.slice (some ⟨g, 0, none⟩) (r.length + 1) cap, .int .i64 c.ahead, .map (some (w.heap.size + 1))] 101 (0, 0)) := by
    rw [hgrow.block b (by rw [hW7]; omega) (by simp [Value.ownBlock]; exact h.ne), Lib.alloc_old _ _ b (by rw [hW6]; omega), Lib.alloc_old _ _ b (by rw [hW5]; omega)]
    exact t1
  have z0 : w7.cell? ⟨b, 0, none⟩ = some (.slice (some ⟨g, 0, none⟩) (r.length + 1) cap) := by rw [Lib.cell_of_heap hbW]; rfl
  have zf : w7.frozen? ⟨b, 0, none⟩ = false := Lib.frozen_of_heap hbW 0
  have hgX : ∀ x, x ≠ g → x < w.heap.size + 1 + 1 → w7.heap[x]? = (namW w2 b (w.heap.size + 1)).heap[x]? := by
    intro x hx hlt
    rw [hgrow.block x (by rw [hW7]; omega) (by simp [Value.ownBlock]; exact hx), Lib.alloc_old _ _ x (by rw [hW6]; omega), Lib.alloc_old _ _ x (by rw [hW5]; omega)]
  have hltg : g < w.heap.size := (Array.getElem?_eq_some_iff.1 h.hr).1
  have hmn7 : w7.heap[w.heap.size + 1 + 1]? = some (.map #[] 0) := by
    rw [hgrow.block _ (by rw [hW7]; omega) (by simp [Value.ownBlock]; omega), Lib.alloc_old _ _ _ (by rw [hW6]; omega)]
    exact hM
  have hfin := CN.pushed (w3 := w7) (v' := v') (w.heap.size + 1 + 1) hmn7 (by rw [hW5]; omega) (by rw [hW5]; omega) (fun x x1 x2 => hgX x x1 (by rw [hW5] at x2; exact x2)) hown7 (by simp only [List.length_cons]; omega) (by omega) (by simp)
  have hbel : Below B w w7 := ((((keyed_below K hw h.hg m1).setCell (p := ⟨b, 2, none⟩) h.hB (.map (some (w.heap.size + 1)))).alloc (by rw [setCell_size]; omega) (.map #[] 0)).alloc (by rw [hW5]; omega) (.map #[] 0)).alloc (by rw [hW6]; omega) (.cells #[.map (some (w.heap.size + 1 + 1)), .bool false] 98) |>.grown hgrow (by rw [hW7]; omega) (fun x hx => by simp [Value.ownBlock] at hx; rw [← hx]; exact h.hg)
  obtain ⟨g', cap', rfl⟩ : ∃ g' cap', v' = .slice (some ⟨g', 0, none⟩) (r.length + 1 + 1) cap' := by
    rcases hown7.2 with ⟨_, h0⟩ | ⟨g', cap', cur', hv, _⟩
    · simp at h0
    · exact ⟨g', cap', hv⟩
  clear hown hgrow hown7
  go_wp2
  go_ret
  exact ⟨rfl, hfin, hbel.setCell (p := ⟨b, 0, none⟩) h.hB _, keyed_k38 h K (fun x x1 x2 x3 => ((set_b hbW 0 _).2 x x1).trans ((hgX x x2 (by omega)).trans (t2 x x1 x3)))⟩
set_option maxHeartbeats 4000000 in
set_option maxRecDepth 100000 in
theorem st_ok_Ak (w : World) (B b : Nat) (c : CkS) (N : Int) (a k : ByteArray) (hw : B ≤ w.heap.size) (p : PlT) (r : List PlT) (g cap : Nat) (cur : Array Value) (nm : Value) (h : CkAt w B b c N (p :: r) g cap cur nm) (hp2 : p.2.2 = false) (hN : 0 ≤ N) (hN2 : N ≤ 1000000) (hk0 : k ≠ ⟨#[]⟩) (hk : hasK k p.2.1 = false) (hd : (r.length : Int) + 1 ≤ 8) : Calls Try.prog 100 #[.pointer (some ⟨b, 0, none⟩), .agg #[.int .i64 1, .string a, .string k]] w fun e w' => e = .returned (errV 0) ∧ CkIsQ w' B b { c with l := ([], false) :: (addK k p.2.1, false) :: r.map Prod.snd, names := [] } (N + 1) ∧ Below B w w' ∧ K38 w w' := by
  have d0 := (insW_cell h 1 a k 0).trans h.c0
  have e0 := (insW_row h 1 a k (r.length * 2)).trans h.p0
  have e1 := (insW_row h 1 a k (r.length * 2 + 1)).trans h.p1
  rw [hp2] at e1
  have f1 : (insW w 1 a k).frozen? ⟨g, r.length * 2 + 1, none⟩ = false := (World.frozen?_of_block (Lib.alloc_old w _ g (Array.getElem?_eq_some_iff.1 h.hr).1)).trans (h.fr _)
  have hfew : r.length + 1 ≤ 300 := h.hfew
  have hcap : r.length + 1 ≤ cap := h.hcap
  have hmax := h.hmax
  have i1 := wrapn r.length (by omega)
  obtain ⟨m1, m2⟩ := h.hm p (by simp)
  have hpg := mapNe m2 h.hr
  obtain ⟨v, v1, v2, v3, v4⟩ := look m2 hN t96 Try.underlying9 z3 k
  have v0 : v = 0 := by
    have : ¬ 0 < v := fun q => by rw [v2.1 q] at hk; cases hk
    omega
  subst v0
  have hemp : (!k.toList.isEmpty) = true := nempty hk0
  obtain ⟨s1, s2⟩ := allW_heap h 1 a k false
  have hmh : (insW w 1 a k).heap[p.1]? = w.heap[p.1]? := Lib.alloc_old w _ p.1 m2.lt
  have hmh2 : (allW w 1 a k g (r.length * 2 + 1) false).heap[p.1]? = w.heap[p.1]? := s2 p.1 hpg m2.lt
  have lk1 := fun n => v1 ((insW w 1 a k).drewN n) hmh
  have lk2 := fun n => v1 ((allW w 1 a k g (r.length * 2 + 1) false).drewN n) hmh2
  have q0 : (allW w 1 a k g (r.length * 2 + 1) false).cell? ⟨g, r.length * 2, none⟩ = some (.map (some p.1)) := by
    rw [Lib.cell_of_heap s1, Array.getElem?_setIfInBounds_ne (by omega)]
    exact h.cells.1
  have hup := keyed h 1 a k 1 (by omega) (by omega)
  clear v1 hmh hmh2 s1 s2
  go_enter Try.func100, Try.ntmps100
  go_wp2
  go_quiet (fail)
  generalize nq = n0
  go_wp2
  go_quiet (fail)
  go_wp2
  change Code.wp _ _ _ _ ((allW w 1 a k g (r.length * 2 + 1) false).drewN _)
  obtain ⟨w2, u1, K⟩ := hup (n0 + nq + 1)
  clear hup
  have hmm := @run_makeMap Try.prog
  have hltb := h.lt
  have hs2 := K.size
  have hb2 := K.hb.trans h.hb
  have hb3 : (w2.alloc (.map #[] 0)).heap[b]? = _ := (Lib.alloc_old w2 (.map #[] 0) b (by omega)).trans hb2
  have x2 : (w2.alloc (.map #[] 0)).cell? ⟨b, 2, none⟩ = some nm := by rw [Lib.cell_of_heap hb3]; rfl
  have xf : (w2.alloc (.map #[] 0)).frozen? ⟨b, 2, none⟩ = false := Lib.frozen_of_heap hb3 2
  obtain ⟨t1, t2, t3⟩ := named hb2 hs2 hltb
  have hi4 : (namW w2 b (w.heap.size + 1)).heap[w.heap.size]? = _ := (t2 w.heap.size (by omega) (by omega)).trans K.hi
  have y0 : (namW w2 b (w.heap.size + 1)).cell? ⟨w.heap.size, 0, none⟩ = some (.int .i64 1) := by rw [Lib.cell_of_heap hi4]; rfl
  have y1 : (namW w2 b (w.heap.size + 1)).cell? ⟨b, 0, none⟩ = some (.slice (some ⟨g, 0, none⟩) (r.length + 1) cap) := by rw [Lib.cell_of_heap t1]; rfl
  have CN := keyed_ck h K hN (w.heap.size + 1) t1 t3 (by omega) hw (fun x x1 x2 => t2 x x1 x2)
  obtain ⟨i0, hi, hz0, hz1, hz2⟩ := info_parts info98
  have hown := (CN.owns.alloc (.map #[] 0)).alloc (.cells #[.map (some (w.heap.size + 1 + 1)), .bool false] 98)
  have hW5 : (namW w2 b (w.heap.size + 1)).heap.size = w.heap.size + 1 + 1 := by rw [alloc_size, setCell_size, hs2]
  have hW6 : ((namW w2 b (w.heap.size + 1)).alloc (.map #[] 0)).heap.size = w.heap.size + 1 + 1 + 1 := by rw [alloc_size, hW5]
  have hW7 : (((namW w2 b (w.heap.size + 1)).alloc (.map #[] 0)).alloc (.cells #[.map (some (w.heap.size + 1 + 1)), .bool false] 98)).heap.size = w.heap.size + 1 + 1 + 1 + 1 := by rw [alloc_size, hW6]
  have hX : (((namW w2 b (w.heap.size + 1)).alloc (.map #[] 0)).alloc (.cells #[.map (some (w.heap.size + 1 + 1)), .bool false] 98)).heap[w.heap.size + 1 + 1 + 1]? = some (.cells #[.map (some (w.heap.size + 1 + 1)), .bool false] 98 (0, 0)) := by
    have := heap_alloc_new ((namW w2 b (w.heap.size + 1)).alloc (.map #[] 0)) (.cells #[.map (some (w.heap.size + 1 + 1)), .bool false] 98)
    rw [hW6] at this
    exact this
  have hM : ((namW w2 b (w.heap.size + 1)).alloc (.map #[] 0)).heap[w.heap.size + 1 + 1]? = some (.map #[] 0) := by
    have := heap_alloc_new (namW w2 b (w.heap.size + 1)) (.map #[] 0)
    rw [hW5] at this
    exact this
  go_region
  go_wp2_with (at_builtin; refine wpList_append_own _ rfl _ _ 99 rfl B 98 i0 (.agg #[.map none, .bool false]) 2 16 Try.underlying99 hi hz0 hz1 hz2 rfl (by decide) _ _ _ rfl hown ⟨w.heap.size + 1 + 1 + 1, 0, none⟩ 1 1 [.map (some (w.heap.size + 1 + 1)), .bool false] rfl rfl ?c1 ?c2 ?c3 ?c4 ?c5 ?_)
  case c1 =>
    intro j u hj
    match j, hj with
    | 0, hj => simp at hj; subst hj; show World.cell? _ ⟨w.heap.size + 1 + 1 + 1, 0, none⟩ = _; rw [Lib.cell_of_heap hX]; rfl
    | 1, hj => simp at hj; subst hj; show World.cell? _ ⟨w.heap.size + 1 + 1 + 1, 1, none⟩ = _; rw [Lib.cell_of_heap hX]; rfl
  case c2 => intro u hu; simp at hu; rcases hu with rfl | rfl <;> rfl
  case c3 => unfold maxLen; simp only [List.length_cons]; omega
  case c4 => simp only [List.length_cons]; omega
  case c5 => rw [hW7]; omega
  intro v' w7 hown7 hgrow _
  have hbW : w7.heap[b]? = some (.cells #[.slice (some ⟨g, 0, none⟩) (r.length + 1) cap, .int .i64 c.ahead, .map (some (w.heap.size + 1))] 101 (0, 0)) := by
    rw [hgrow.block b (by rw [hW7]; omega) (by simp [Value.ownBlock]; exact h.ne), Lib.alloc_old _ _ b (by rw [hW6]; omega), Lib.alloc_old _ _ b (by rw [hW5]; omega)]
    exact t1
  have z0 : w7.cell? ⟨b, 0, none⟩ = some (.slice (some ⟨g, 0, none⟩) (r.length + 1) cap) := by rw [Lib.cell_of_heap hbW]; rfl
  have zf : w7.frozen? ⟨b, 0, none⟩ = false := Lib.frozen_of_heap hbW 0
  have hgX : ∀ x, x ≠ g → x < w.heap.size + 1 + 1 → w7.heap[x]? = (namW w2 b (w.heap.size + 1)).heap[x]? := by
    intro x hx hlt
    rw [hgrow.block x (by rw [hW7]; omega) (by simp [Value.ownBlock]; exact hx), Lib.alloc_old _ _ x (by rw [hW6]; omega), Lib.alloc_old _ _ x (by rw [hW5]; omega)]
  have hltg : g < w.heap.size := (Array.getElem?_eq_some_iff.1 h.hr).1
  have hmn7 : w7.heap[w.heap.size + 1 + 1]? = some (.map #[] 0) := by
    rw [hgrow.block _ (by rw [hW7]; omega) (by simp [Value.ownBlock]; omega), Lib.alloc_old _ _ _ (by rw [hW6]; omega)]
    exact hM
  have hfin := CN.pushed (w3 := w7) (v' := v') (w.heap.size + 1 + 1) hmn7 (by rw [hW5]; omega) (by rw [hW5]; omega) (fun x x1 x2 => hgX x x1 (by rw [hW5] at x2; exact x2)) hown7 (by simp only [List.length_cons]; omega) (by omega) (by simp)
  have hbel : Below B w w7 := ((((keyed_below K hw h.hg m1).setCell (p := ⟨b, 2, none⟩) h.hB (.map (some (w.heap.size + 1)))).alloc (by rw [setCell_size]; omega) (.map #[] 0)).alloc (by rw [hW5]; omega) (.map #[] 0)).alloc (by rw [hW6]; omega) (.cells #[.map (some (w.heap.size + 1 + 1)), .bool false] 98) |>.grown hgrow (by rw [hW7]; omega) (fun x hx => by simp [Value.ownBlock] at hx; rw [← hx]; exact h.hg)
  obtain ⟨g', cap', rfl⟩ : ∃ g' cap', v' = .slice (some ⟨g', 0, none⟩) (r.length + 1 + 1) cap' := by
    rcases hown7.2 with ⟨_, h0⟩ | ⟨g', cap', cur', hv, _⟩
    · simp at h0
    · exact ⟨g', cap', hv⟩
  clear hown hgrow hown7
  go_wp2
  go_ret
  exact ⟨rfl, hfin, hbel.setCell (p := ⟨b, 0, none⟩) h.hB _, keyed_k38 h K (fun x x1 x2 x3 => ((set_b hbW 0 _).2 x x1).trans ((hgX x x2 (by omega)).trans (t2 x x1 x3)))⟩
set_option maxHeartbeats 4000000 in
set_option maxRecDepth 100000 in
theorem st_ok_B0 (w : World) (B b : Nat) (c : CkS) (N : Int) (a k : ByteArray) (hw : B ≤ w.heap.size) (p : PlT) (r : List PlT) (g cap : Nat) (cur : Array Value) (nm : Value) (h : CkAt w B b c N (p :: r) g cap cur nm) (hp2 : p.2.2 = false) (hN : 0 ≤ N) (hN2 : N ≤ 1000000) : Calls Try.prog 100 #[.pointer (some ⟨b, 0, none⟩), .agg #[.int .i64 3, .string a, .string ⟨#[]⟩]] w fun e w' => e = .returned (errV 0) ∧ CkIsQ w' B b { c with l := (addK ⟨#[]⟩ p.2.1, false) :: r.map Prod.snd, names := [] } (N + 1) ∧ Below B w w' ∧ K38 w w' := by
  have d0 := (insW_cell h 3 a ⟨#[]⟩ 0).trans h.c0
  have e0 := (insW_row h 3 a ⟨#[]⟩ (r.length * 2)).trans h.p0
  have e1 := (insW_row h 3 a ⟨#[]⟩ (r.length * 2 + 1)).trans h.p1
  rw [hp2] at e1
  have f1 : (insW w 3 a ⟨#[]⟩).frozen? ⟨g, r.length * 2 + 1, none⟩ = false := (World.frozen?_of_block (Lib.alloc_old w _ g (Array.getElem?_eq_some_iff.1 h.hr).1)).trans (h.fr _)
  have hfew : r.length + 1 ≤ 300 := h.hfew
  have hcap : r.length + 1 ≤ cap := h.hcap
  have hmax := h.hmax
  have i1 := wrapn r.length (by omega)
  obtain ⟨m1, m2⟩ := h.hm p (by simp)
  have hpg := mapNe m2 h.hr
  obtain ⟨v, v1, v2, v3, v4⟩ := look m2 hN t96 Try.underlying9 z3 ⟨#[]⟩
  have wv : IntKind.i64.wrap (v + 1) = v + 1 := by rw [IntKind.wrap_i64]; omega
  obtain ⟨s1, s2⟩ := allW_heap h 3 a ⟨#[]⟩ false
  have hmh : (insW w 3 a ⟨#[]⟩).heap[p.1]? = w.heap[p.1]? := Lib.alloc_old w _ p.1 m2.lt
  have hmh2 : (allW w 3 a ⟨#[]⟩ g (r.length * 2 + 1) false).heap[p.1]? = w.heap[p.1]? := s2 p.1 hpg m2.lt
  have lk1 := fun n => v1 ((insW w 3 a ⟨#[]⟩).drewN n) hmh
  have lk2 := fun n => v1 ((allW w 3 a ⟨#[]⟩ g (r.length * 2 + 1) false).drewN n) hmh2
  have q0 : (allW w 3 a ⟨#[]⟩ g (r.length * 2 + 1) false).cell? ⟨g, r.length * 2, none⟩ = some (.map (some p.1)) := by
    rw [Lib.cell_of_heap s1, Array.getElem?_setIfInBounds_ne (by omega)]
    exact h.cells.1
  have hup := keyed h 3 a ⟨#[]⟩ (v + 1) (by omega) (by omega)
  clear v1 hmh hmh2 s1 s2
  go_enter Try.func100, Try.ntmps100
  go_wp2
  go_quiet (fail)
  generalize nq = n0
  go_wp2
  go_quiet (fail)
  go_wp2
  change Code.wp _ _ _ _ ((allW w 3 a ⟨#[]⟩ g (r.length * 2 + 1) false).drewN _)
  obtain ⟨w2, u1, K⟩ := hup (n0 + nq + 1)
  clear hup
  have hmm := @run_makeMap Try.prog
  have hltb := h.lt
  have hs2 := K.size
  have hb2 := K.hb.trans h.hb
  have hb3 : (w2.alloc (.map #[] 0)).heap[b]? = _ := (Lib.alloc_old w2 (.map #[] 0) b (by omega)).trans hb2
  have x2 : (w2.alloc (.map #[] 0)).cell? ⟨b, 2, none⟩ = some nm := by rw [Lib.cell_of_heap hb3]; rfl
  have xf : (w2.alloc (.map #[] 0)).frozen? ⟨b, 2, none⟩ = false := Lib.frozen_of_heap hb3 2
  obtain ⟨t1, t2, t3⟩ := named hb2 hs2 hltb
  have hi4 : (namW w2 b (w.heap.size + 1)).heap[w.heap.size]? = _ := (t2 w.heap.size (by omega) (by omega)).trans K.hi
  have y0 : (namW w2 b (w.heap.size + 1)).cell? ⟨w.heap.size, 0, none⟩ = some (.int .i64 3) := by rw [Lib.cell_of_heap hi4]; rfl
  go_region
  go_wp2
  go_ret
  refine ⟨rfl, ⟨_, _, _, _, _, keyed_ck h K hN (w.heap.size + 1) t1 t3 (by omega) hw (fun x x1 x2 => t2 x x1 x2), by simp⟩, ?_, keyed_k38 h K (fun x x1 _ x2 => t2 x x1 x2)⟩
  exact ((keyed_below K hw h.hg m1).setCell (p := ⟨b, 2, none⟩) h.hB _).alloc (by rw [setCell_size]; omega) _
set_option maxHeartbeats 4000000 in
set_option maxRecDepth 100000 in
theorem st_ok_Bk (w : World) (B b : Nat) (c : CkS) (N : Int) (a k : ByteArray) (hw : B ≤ w.heap.size) (p : PlT) (r : List PlT) (g cap : Nat) (cur : Array Value) (nm : Value) (h : CkAt w B b c N (p :: r) g cap cur nm) (hp2 : p.2.2 = false) (hN : 0 ≤ N) (hN2 : N ≤ 1000000) (hk0 : k ≠ ⟨#[]⟩) (hk : hasK k p.2.1 = false) : Calls Try.prog 100 #[.pointer (some ⟨b, 0, none⟩), .agg #[.int .i64 3, .string a, .string k]] w fun e w' => e = .returned (errV 0) ∧ CkIsQ w' B b { c with l := (addK k p.2.1, false) :: r.map Prod.snd, names := [] } (N + 1) ∧ Below B w w' ∧ K38 w w' := by
  have d0 := (insW_cell h 3 a k 0).trans h.c0
  have e0 := (insW_row h 3 a k (r.length * 2)).trans h.p0
  have e1 := (insW_row h 3 a k (r.length * 2 + 1)).trans h.p1
  rw [hp2] at e1
  have f1 : (insW w 3 a k).frozen? ⟨g, r.length * 2 + 1, none⟩ = false := (World.frozen?_of_block (Lib.alloc_old w _ g (Array.getElem?_eq_some_iff.1 h.hr).1)).trans (h.fr _)
  have hfew : r.length + 1 ≤ 300 := h.hfew
  have hcap : r.length + 1 ≤ cap := h.hcap
  have hmax := h.hmax
  have i1 := wrapn r.length (by omega)
  obtain ⟨m1, m2⟩ := h.hm p (by simp)
  have hpg := mapNe m2 h.hr
  obtain ⟨v, v1, v2, v3, v4⟩ := look m2 hN t96 Try.underlying9 z3 k
  have v0 : v = 0 := by
    have : ¬ 0 < v := fun q => by rw [v2.1 q] at hk; cases hk
    omega
  subst v0
  have hemp : (!k.toList.isEmpty) = true := nempty hk0
  obtain ⟨s1, s2⟩ := allW_heap h 3 a k false
  have hmh : (insW w 3 a k).heap[p.1]? = w.heap[p.1]? := Lib.alloc_old w _ p.1 m2.lt
  have hmh2 : (allW w 3 a k g (r.length * 2 + 1) false).heap[p.1]? = w.heap[p.1]? := s2 p.1 hpg m2.lt
  have lk1 := fun n => v1 ((insW w 3 a k).drewN n) hmh
  have lk2 := fun n => v1 ((allW w 3 a k g (r.length * 2 + 1) false).drewN n) hmh2
  have q0 : (allW w 3 a k g (r.length * 2 + 1) false).cell? ⟨g, r.length * 2, none⟩ = some (.map (some p.1)) := by
    rw [Lib.cell_of_heap s1, Array.getElem?_setIfInBounds_ne (by omega)]
    exact h.cells.1
  have hup := keyed h 3 a k 1 (by omega) (by omega)
  clear v1 hmh hmh2 s1 s2
  go_enter Try.func100, Try.ntmps100
  go_wp2
  go_quiet (fail)
  generalize nq = n0
  go_wp2
  go_quiet (fail)
  go_wp2
  change Code.wp _ _ _ _ ((allW w 3 a k g (r.length * 2 + 1) false).drewN _)
  obtain ⟨w2, u1, K⟩ := hup (n0 + nq + 1)
  clear hup
  have hmm := @run_makeMap Try.prog
  have hltb := h.lt
  have hs2 := K.size
  have hb2 := K.hb.trans h.hb
  have hb3 : (w2.alloc (.map #[] 0)).heap[b]? = _ := (Lib.alloc_old w2 (.map #[] 0) b (by omega)).trans hb2
  have x2 : (w2.alloc (.map #[] 0)).cell? ⟨b, 2, none⟩ = some nm := by rw [Lib.cell_of_heap hb3]; rfl
  have xf : (w2.alloc (.map #[] 0)).frozen? ⟨b, 2, none⟩ = false := Lib.frozen_of_heap hb3 2
  obtain ⟨t1, t2, t3⟩ := named hb2 hs2 hltb
  have hi4 : (namW w2 b (w.heap.size + 1)).heap[w.heap.size]? = _ := (t2 w.heap.size (by omega) (by omega)).trans K.hi
  have y0 : (namW w2 b (w.heap.size + 1)).cell? ⟨w.heap.size, 0, none⟩ = some (.int .i64 3) := by rw [Lib.cell_of_heap hi4]; rfl
  go_region
  go_wp2
  go_ret
  refine ⟨rfl, ⟨_, _, _, _, _, keyed_ck h K hN (w.heap.size + 1) t1 t3 (by omega) hw (fun x x1 x2 => t2 x x1 x2), by simp⟩, ?_, keyed_k38 h K (fun x x1 _ x2 => t2 x x1 x2)⟩
  exact ((keyed_below K hw h.hg m1).setCell (p := ⟨b, 2, none⟩) h.hB _).alloc (by rw [setCell_size]; omega) _
end Go.Va.Vc
set_option linter.unusedVariables false
namespace Go.Va.Vc
open Go.Va
open Go.Proofs Go.RowKit
theorem CkAt.up {w : World} {B b : Nat} {c : CkS} {N N' : Int} {pl : List PlT} {g cap : Nat} {cur : Array Value} {nm : Value} (h : CkAt w B b c N pl g cap cur nm) (hN : N ≤ N') : CkAt w B b c N' pl g cap cur nm :=
  ⟨h.hB, h.hb, h.hg, h.hr, h.hcap, h.hmax, h.hsz, h.hcur, h.hl, h.hne, h.hfew, fun p hp => ⟨(h.hm p hp).1, (h.hm p hp).2.mono rfl hN⟩, h.hnd, h.hel, h.hnm.imp id fun ⟨m, k1, k2, k3, k4⟩ => ⟨m, k1, k2, k3.mono rfl hN, k4⟩⟩
theorem CkIs.up {w : World} {B b : Nat} {c : CkS} {N N' : Int} (h : CkIs w B b c N) (hN : N ≤ N') : CkIs w B b c N' := by
  obtain ⟨pl, g, cap, cur, nm, h⟩ := h
  exact ⟨pl, g, cap, cur, nm, h.up hN⟩
theorem CkIs.below {w w' : World} {B b : Nat} {c : CkS} {N : Int} (h : CkIs w B b c N) (k : Below w.heap.size w w') : CkIs w' B b c N := by
  obtain ⟨pl, g, cap, cur, nm, h⟩ := h
  have ltb := h.lt
  have ltg : g < w.heap.size := (Array.getElem?_eq_some_iff.1 h.hr).1
  exact ⟨pl, g, cap, cur, nm, h.hB, (k.block b ltb).trans h.hb, h.hg, (k.block g ltg).trans h.hr, h.hcap, h.hmax, h.hsz, h.hcur, h.hl, h.hne, h.hfew, fun p hp => ⟨(h.hm p hp).1, (h.hm p hp).2.mono (k.block _ (h.hm p hp).2.lt) (Int.le_refl _)⟩, h.hnd, h.hel, h.hnm.imp id fun ⟨m, k1, k2, k3, k4⟩ => ⟨m, k1, k2, k3.mono (k.block _ k3.lt) (Int.le_refl _), k4⟩⟩
theorem CkIs.lt {w : World} {B b : Nat} {c : CkS} {N : Int} (h : CkIs w B b c N) : b < w.heap.size := by
  obtain ⟨pl, g, cap, cur, nm, h⟩ := h
  exact h.lt
theorem c_attr (w : World) (B b : Nat) (c : CkS) (N : Int) (o : Int) (a k : ByteArray) (hw : B ≤ w.heap.size) (h : CkIs w B b c N) (hN : 0 ≤ N) : Calls Try.prog 98 #[.pointer (some ⟨b, 0, none⟩), .agg #[.int .i64 o, .string a, .string k]] w fun e w' => e = .returned (errV (ckAttr c a).1) ∧ ((ckAttr c a).1 = 0 → CkIsQ w' B b (ckAttr c a).2 (N + 1) ∧ K38 w w') ∧ Below B w w' := by
  unfold ckAttr
  cases he : (elemB c.ahead || tellsB c.ahead) with
  | false =>
    simp only [Bool.not_false, if_true]
    exact (c_attr_no w B b c N o a k hw h he).mono fun e w' q => ⟨q.1, (fun z => by cases z), q.2⟩
  | true =>
    simp only [Bool.not_true, Bool.false_eq_true, if_false]
    cases hk : hasK a c.names with
    | true =>
      simp only [if_true]
      exact (c_attr_has w B b c N o a k hw h he hN hk).mono fun e w' q => ⟨q.1, (fun z => by cases z), q.2⟩
    | false =>
      simp only [Bool.false_eq_true, if_false]
      by_cases hl : 8 ≤ c.names.length
      · simp only [hl, if_true]
        exact (c_attr_many w B b c N o a k hw h he hN hk hl).mono fun e w' q => ⟨q.1, (fun z => by cases z), q.2⟩
      · simp only [hl, if_false]
        exact (c_attr_ok w B b c N o a k hw h he hN hk (by omega)).mono fun e w' q => ⟨q.1, (fun _ => ⟨q.2.1, q.2.2.2⟩), q.2.2.1⟩
theorem c_stands (w : World) (B b : Nat) (c : CkS) (N : Int) (o : Int) (a k : ByteArray) (hw : B ≤ w.heap.size) (h : CkIs w B b c N) (hN : 0 ≤ N) (hN2 : N ≤ 1000000) : Calls Try.prog 100 #[.pointer (some ⟨b, 0, none⟩), .agg #[.int .i64 o, .string a, .string k]] w fun e w' => e = .returned (errV (ckStands c (o, a, k)).1) ∧ ((ckStands c (o, a, k)).1 = 0 → CkIs w' B b (ckStands c (o, a, k)).2 (N + 1) ∧ (elemB o = true → CkIsQ w' B b (ckStands c (o, a, k)).2 (N + 1)) ∧ K38 w w') ∧ Below B w w' := by
  obtain ⟨pl, g, cap, cur, nm, h⟩ := h
  cases hp : pl with
  | nil => exact (h.hne hp).elim
  | cons p r =>
    subst hp
    have hl : c.l = (p.2.1, p.2.2) :: r.map Prod.snd := h.hl
    have e : ckStands c (o, a, k) = (if p.2.2 then (11, c)
      else if elemB o && (!(k.data.toList == []) && hasK k p.2.1) then (10, c)
      else if decide (o = 1) && decide (8 < (r.map Prod.snd).length + 1) then (12, c)
      else if elemB o then (0, { c with l := (if o = 1 then ([], false) :: (addK k p.2.1, false) :: r.map Prod.snd else (addK k p.2.1, false) :: r.map Prod.snd), names := [] })
      else (0, { c with l := (p.2.1, decide (o = 7)) :: r.map Prod.snd })) := by
      unfold ckStands
      rw [hl]
    rw [e]
    have no : ∀ {n : Nat} {P : Ending → World → Prop}, True := fun {_} {_} => trivial
    by_cases h1 : o = 1
    · subst h1
      cases hp2 : p.2.2 with
      | true =>
        simp only [if_true]
        exact (st_all_A w B b c N a k hw p r g cap cur nm h hp2).mono fun e w' q => ⟨q.1, (fun z => by cases z), q.2⟩
      | false =>
        simp only [Bool.false_eq_true, if_false, show elemB 1 = true from rfl, Bool.true_and, decide_true, List.length_map, if_true]
        by_cases hk0 : k = ⟨#[]⟩
        · subst hk0
          simp only [show ((⟨#[]⟩ : ByteArray).data.toList == []) = true from rfl, Bool.not_true, Bool.false_and, Bool.false_eq_true, if_false]
          by_cases hd : 8 < r.length + 1
          · simp only [hd, decide_true, if_true]
            exact (st_deep_0 w B b c N a ⟨#[]⟩ hw p r g cap cur nm h hp2 (by omega)).mono fun e w' q => ⟨q.1, (fun z => by cases z), q.2⟩
          · simp only [hd, decide_false, Bool.false_eq_true, if_false]
            exact (st_ok_A0 w B b c N a ⟨#[]⟩ hw p r g cap cur nm h hp2 hN hN2 (by omega)).mono fun e w' q => ⟨q.1, (fun _ => ⟨q.2.1.is, fun _ => q.2.1, q.2.2.2⟩), q.2.2.1⟩
        · have hke : (k.data.toList == []) = false := by
            cases q : (k.data.toList == []) with
            | false => rfl
            | true =>
              exfalso
              apply hk0
              cases k with
              | mk d =>
                have : d.toList = [] := by simpa using q
                rw [show d = #[] from Array.ext' this]
          simp only [hke, Bool.not_false, Bool.true_and]
          cases hk : hasK k p.2.1 with
          | true =>
            simp only [if_true]
            exact (st_key_A w B b c N a k hw p r g cap cur nm h hp2 hk0 hN hk).mono fun e w' q => ⟨q.1, (fun z => by cases z), q.2⟩
          | false =>
            simp only [Bool.false_eq_true, if_false]
            by_cases hd : 8 < r.length + 1
            · simp only [hd, decide_true, if_true]
              exact (st_deep_k w B b c N a k hw p r g cap cur nm h hp2 (by omega) hk0 hN hk).mono fun e w' q => ⟨q.1, (fun z => by cases z), q.2⟩
            · simp only [hd, decide_false, Bool.false_eq_true, if_false]
              exact (st_ok_Ak w B b c N a k hw p r g cap cur nm h hp2 hN hN2 hk0 hk (by omega)).mono fun e w' q => ⟨q.1, (fun _ => ⟨q.2.1.is, fun _ => q.2.1, q.2.2.2⟩), q.2.2.1⟩
    · by_cases h3 : o = 3
      · subst h3
        cases hp2 : p.2.2 with
        | true =>
          simp only [if_true]
          exact (st_all_B w B b c N a k hw p r g cap cur nm h hp2).mono fun e w' q => ⟨q.1, (fun z => by cases z), q.2⟩
        | false =>
          simp only [Bool.false_eq_true, if_false, show elemB 3 = true from rfl, Bool.true_and, show decide ((3 : Int) = 1) = false from rfl, Bool.false_and, if_true, show ¬ ((3 : Int) = 1) by decide]
          by_cases hk0 : k = ⟨#[]⟩
          · subst hk0
            simp only [show ((⟨#[]⟩ : ByteArray).data.toList == []) = true from rfl, Bool.not_true, Bool.false_and, Bool.false_eq_true, if_false]
            exact (st_ok_B0 w B b c N a ⟨#[]⟩ hw p r g cap cur nm h hp2 hN hN2).mono fun e w' q => ⟨q.1, (fun _ => ⟨q.2.1.is, fun _ => q.2.1, q.2.2.2⟩), q.2.2.1⟩
          · have hke : (k.data.toList == []) = false := by
              cases q : (k.data.toList == []) with
              | false => rfl
              | true =>
                exfalso
                apply hk0
                cases k with
                | mk d =>
                  have : d.toList = [] := by simpa using q
                  rw [show d = #[] from Array.ext' this]
            simp only [hke, Bool.not_false, Bool.true_and]
            cases hk : hasK k p.2.1 with
            | true =>
              simp only [if_true]
              exact (st_key_B w B b c N a k hw p r g cap cur nm h hp2 hk0 hN hk).mono fun e w' q => ⟨q.1, (fun z => by cases z), q.2⟩
            | false =>
              simp only [Bool.false_eq_true, if_false]
              exact (st_ok_Bk w B b c N a k hw p r g cap cur nm h hp2 hN hN2 hk0 hk).mono fun e w' q => ⟨q.1, (fun _ => ⟨q.2.1.is, fun _ => q.2.1, q.2.2.2⟩), q.2.2.1⟩
      · have hel : elemB o = false := by simp [elemB, h1, h3]
        have ho1 : (o == 1) = false := by simp [h1]
        have ho3 : (o == 3) = false := by simp [h3]
        cases hp2 : p.2.2 with
        | true =>
          simp only [if_true]
          exact (st_all_C w B b c N o a k hw p r g cap cur nm h ho1 ho3 hp2).mono fun e w' q => ⟨q.1, (fun z => by cases z), q.2⟩
        | false =>
          simp only [Bool.false_eq_true, if_false, hel, Bool.false_and, h1, decide_false]
          refine (st_ok_C w B b c N o a k hw p r g cap cur nm h ho1 ho3 hp2).mono fun e w' q => ⟨q.1, fun _ => ?_, q.2.2.1⟩
          have := q.2.1.up (show N ≤ N + 1 by omega)
          rw [show (o == 7) = decide (o = 7) from Bool.beq_eq_decide_eq o 7] at this
          exact ⟨this, (fun z => z.elim), q.2.2.2⟩
end Go.Va.Vc
set_option linter.unusedVariables false
namespace Go.Va.Vc
open Go.Va
open Go.Proofs Go.RowKit
/-- what one instruction comes to -/
def OnePost (w : World) (B b : Nat) (N o : Int) (r : Nat × CkS) (e : Ending) (w' : World) : Prop := e = .returned (errV r.1) ∧ (r.1 = 0 → CkIs w' B b r.2 (N + 1) ∧ ((elemB o || tellsB o) = true → CkIsQ w' B b r.2 (N + 1)) ∧ K38 w w') ∧ Below B w w'
set_option maxHeartbeats 4000000 in
set_option maxRecDepth 100000 in
theorem c_one (w : World) (B b : Nat) (c : CkS) (N : Int) (o : Int) (a k : ByteArray) (may : Bool) (hw : B ≤ w.heap.size) (h : CkIs w B b c N) (hN : 0 ≤ N) (hN2 : N ≤ 1000000)
    (hMay : ∀ w1, Below B w w1 → Calls Try.prog 59 #[.agg #[.int .i64 o, .string a, .string k]] w1 fun e w' => e = .returned (.bool may) ∧ Below w1.heap.size w1 w') :
    Calls Try.prog 61 #[.pointer (some ⟨b, 0, none⟩), .agg #[.int .i64 o, .string a, .string k]] w (OnePost w B b N o (ckOne c may (o, a, k))) := by
  have hb1 : Below B w (insW w o a k) := (Below.refl B w).alloc hw _
  have h1 : CkIs (insW w o a k) B b c N := h.below ((Below.refl _ w).alloc (Nat.le_refl _) _)
  have hsz : (insW w o a k).heap.size = w.heap.size + 1 := alloc_size _ _
  have hins : (insW w o a k).heap[w.heap.size]? = some (.cells #[.int .i64 o, .string a, .string k] 38 (0, 0)) := heap_alloc_new w _
  have hk1 : K38 w (insW w o a k) := K38.of ((Below.refl _ w).alloc (Nat.le_refl _) _)
  have cells : ∀ w2, Below (insW w o a k).heap.size (insW w o a k) w2 → w2.cell? ⟨w.heap.size, 0, none⟩ = some (.int .i64 o) ∧ w2.cell? ⟨w.heap.size, 1, none⟩ = some (.string a) ∧ w2.cell? ⟨w.heap.size, 2, none⟩ = some (.string k) := by
    intro w2 hw2
    have := (hw2.block w.heap.size (by rw [hsz]; omega)).trans hins
    refine ⟨?_, ?_, ?_⟩ <;> (rw [Lib.cell_of_heap this]; rfl)
  cases may with
  | false =>
    have e : ckOne c false (o, a, k) = (7, c) := rfl
    rw [e]
    go_enter Try.func61, Try.ntmps61
    go_wp2_with (go_at_call 59; refine (hMay _ hb1).mono ?_; rintro e w2 ⟨rfl, hb2⟩)
    go_wp2
    go_ret
    exact ⟨rfl, (fun z => by cases z), hb1.trans (hb2.mono (by rw [hsz]; omega))⟩
  | true =>
    by_cases ht : o = 5 ∨ o = 6
    · have e : ckOne c true (o, a, k) = ckAttr c a := by
        unfold ckOne
        rw [show tellsB (o, a, k).1 = true from by unfold tellsB; rcases ht with rfl | rfl <;> rfl]
        rfl
      rw [e]
      rcases ht with rfl | rfl
      · go_enter Try.func61, Try.ntmps61
        go_wp2_with (first
          | (go_at_call 59; refine (hMay _ hb1).mono ?_; rintro e w2 ⟨rfl, hb2⟩; obtain ⟨q0, q1, q2⟩ := cells w2 hb2; have hbw2 := hb1.trans (hb2.mono (show B ≤ _ by rw [hsz]; omega)); have h2 := h1.below hb2; have hk2 := hk1.trans (K38.of hb2))
          | (go_at_call 98; refine (c_attr w2 B b c N _ a k (by have := hbw2.size; omega) h2 hN).mono ?_; rintro e w3 ⟨rfl, r1, r2⟩)
          | go_in)
        go_ret
        exact ⟨rfl, (fun z => ⟨(r1 z).1.is, fun _ => (r1 z).1, hk2.trans (r1 z).2⟩), hbw2.trans r2⟩
      · go_enter Try.func61, Try.ntmps61
        go_wp2_with (first
          | (go_at_call 59; refine (hMay _ hb1).mono ?_; rintro e w2 ⟨rfl, hb2⟩; obtain ⟨q0, q1, q2⟩ := cells w2 hb2; have hbw2 := hb1.trans (hb2.mono (show B ≤ _ by rw [hsz]; omega)); have h2 := h1.below hb2; have hk2 := hk1.trans (K38.of hb2))
          | (go_at_call 98; refine (c_attr w2 B b c N _ a k (by have := hbw2.size; omega) h2 hN).mono ?_; rintro e w3 ⟨rfl, r1, r2⟩)
          | go_in)
        go_ret
        exact ⟨rfl, (fun z => ⟨(r1 z).1.is, fun _ => (r1 z).1, hk2.trans (r1 z).2⟩), hbw2.trans r2⟩
    · have hte : tellsB (o, a, k).1 = false := by
        unfold tellsB
        simp only [not_or] at ht
        simp [ht.1, ht.2]
      have ho5 : (o == 5) = false := by simp only [not_or] at ht; simp [ht.1]
      have ho6 : (o == 6) = false := by simp only [not_or] at ht; simp [ht.2]
      by_cases h2 : o = 2
      · subst h2
        have e : ckOne c true (2, a, k) = ckEnds c := rfl
        rw [e]
        go_enter Try.func61, Try.ntmps61
        go_wp2_with (first
          | (go_at_call 59; refine (hMay _ hb1).mono ?_; rintro e w2 ⟨rfl, hb2⟩; obtain ⟨q0, q1, q2⟩ := cells w2 hb2; have hbw2 := hb1.trans (hb2.mono (show B ≤ _ by rw [hsz]; omega)); have h2 := h1.below hb2; have hk2 := hk1.trans (K38.of hb2))
          | (go_at_call 99; refine (c_ends w2 B b c N h2).mono ?_; rintro e w3 ⟨rfl, r1, r2⟩)
          | go_in)
        go_ret
        exact ⟨rfl, (fun _ => ⟨r1.up (by omega), (fun z => by cases z), hk2.trans r2.2⟩), hbw2.trans r2.1⟩
      · have ho2 : (o == 2) = false := by simp [h2]
        have e : ckOne c true (o, a, k) = ckStands c (o, a, k) := by
          unfold ckOne
          rw [hte]
          simp [h2]
        rw [e]
        go_enter Try.func61, Try.ntmps61
        go_wp2_with (first
          | (go_at_call 59; refine (hMay _ hb1).mono ?_; rintro e w2 ⟨rfl, hb2⟩; obtain ⟨q0, q1, q2⟩ := cells w2 hb2; have hbw2 := hb1.trans (hb2.mono (show B ≤ _ by rw [hsz]; omega)); have h2 := h1.below hb2; have hk2 := hk1.trans (K38.of hb2))
          | (go_at_call 100; refine (c_stands w2 B b c N o a k (by have := hbw2.size; omega) h2 hN hN2).mono ?_; rintro e w3 ⟨rfl, r1, r2⟩)
          | go_in)
        go_ret
        exact ⟨rfl, (fun z => ⟨(r1 z).1, fun y => (r1 z).2.1 (by rw [show tellsB o = false from hte, Bool.or_false] at y; exact y), hk2.trans (r1 z).2.2⟩), hbw2.trans r2⟩
end Go.Va.Vc
set_option linter.unusedVariables false
namespace Go.Va.Vc
open Go.Va
open Go.Proofs Go.RowKit
/-- the new checker -/
abbrev newW (w : World) : World := ((w.alloc (.map #[] 0)).alloc (.cells #[.map (some w.heap.size), .bool false] 98)).alloc (.cells #[.slice (some ⟨w.heap.size + 1, 0, none⟩) 1 1, .int .i64 0, .map none] 101)
theorem new_ck (w : World) : CkIs (newW w) w.heap.size (w.heap.size + 1 + 1) ck0 0 ∧ Below w.heap.size w (newW w) := by
  have h1 : (w.alloc (.map #[] 0)).heap.size = w.heap.size + 1 := alloc_size _ _
  have h2 : ((w.alloc (.map #[] 0)).alloc (.cells #[.map (some w.heap.size), .bool false] 98)).heap.size = w.heap.size + 1 + 1 := by rw [alloc_size, h1]
  have hb := heap_alloc_new ((w.alloc (.map #[] 0)).alloc (.cells #[.map (some w.heap.size), .bool false] 98)) (.cells #[.slice (some ⟨w.heap.size + 1, 0, none⟩) 1 1, .int .i64 0, .map none] 101)
  rw [h2] at hb
  have hg : (newW w).heap[w.heap.size + 1]? = some (.cells #[.map (some w.heap.size), .bool false] 98 (0, 0)) := by
    rw [Lib.alloc_old _ _ _ (by rw [h2]; omega)]
    have := heap_alloc_new (w.alloc (.map #[] 0)) (.cells #[.map (some w.heap.size), .bool false] 98)
    rw [h1] at this
    exact this
  have hm : (newW w).heap[w.heap.size]? = some (.map #[] 0) := by
    rw [Lib.alloc_old _ _ _ (by rw [h2]; omega), Lib.alloc_old _ _ _ (by rw [h1]; omega)]
    exact heap_alloc_new w _
  refine ⟨⟨[(w.heap.size, [], false)], w.heap.size + 1, 1, #[.map (some w.heap.size), .bool false], .map none, ⟨by omega, hb, by omega, hg, Nat.le_refl _, by unfold maxLen; decide, rfl, rfl, rfl, by simp, by simp, ?_, by simp, (fun z => by cases z), .inl ⟨rfl, rfl⟩⟩⟩, ?_⟩
  · intro p hp
    simp at hp
    subst hp
    exact ⟨Nat.le_refl _, MapIs.empty hm _⟩
  · exact (((Below.refl _ w).alloc (Nat.le_refl _) _).alloc (by rw [h1]; omega) _).alloc (by rw [h2]; omega) _
/-- the op ahead is told -/
theorem CkIs.ahead {w : World} {B b : Nat} {c : CkS} {N : Int} (h : CkIs w B b c N) (o : Int) (hq : (elemB o || tellsB o) = true → CkIsQ w B b c N) : CkIs (w.setCell ⟨b, 1, none⟩ (.int .i64 o)) B b { c with ahead := o } N := by
  have key : ∀ pl g cap cur nm, CkAt w B b c N pl g cap cur nm → ((elemB o || tellsB o) = true → nm ≠ .map none) → CkIs (w.setCell ⟨b, 1, none⟩ (.int .i64 o)) B b { c with ahead := o } N := by
    intro pl g cap cur nm h hn
    obtain ⟨s1, s2⟩ := set_b h.hb 1 (.int .i64 o)
    exact ⟨pl, g, cap, cur, nm, h.hB, s1, h.hg, (s2 g h.ne.symm).trans h.hr, h.hcap, h.hmax, h.hsz, h.hcur, h.hl, h.hne, h.hfew, fun p hp => ⟨(h.hm p hp).1, (h.hm p hp).2.mono (s2 _ (mapNe (h.hm p hp).2 h.hb)) (Int.le_refl _)⟩, h.hnd, hn, h.hnm.imp id fun ⟨m, k1, k2, k3, k4⟩ => ⟨m, k1, k2, k3.mono (s2 _ (mapNe k3 h.hb)) (Int.le_refl _), k4⟩⟩
  cases e : elemB o || tellsB o with
  | false =>
    obtain ⟨pl, g, cap, cur, nm, h⟩ := h
    exact key pl g cap cur nm h (fun z => by rw [e] at z; cases z)
  | true =>
    obtain ⟨pl, g, cap, cur, nm, h, hn⟩ := hq e
    exact key pl g cap cur nm h (fun _ => hn)
theorem CkIs.facts {w : World} {B b : Nat} {c : CkS} {N : Int} (h : CkIs w B b c N) : (∃ g cap, w.cell? ⟨b, 0, none⟩ = some (.slice (some ⟨g, 0, none⟩) c.l.length cap)) ∧ w.cell? ⟨b, 1, none⟩ = some (.int .i64 c.ahead) ∧ (∀ j, w.frozen? ⟨b, j, none⟩ = false) ∧ 1 ≤ c.l.length := by
  obtain ⟨pl, g, cap, cur, nm, h⟩ := h
  have e : c.l.length = pl.length := by rw [h.hl]; simp
  refine ⟨⟨g, cap, by rw [e]; exact h.c0⟩, h.c1, h.f, ?_⟩
  rw [e]
  have := h.hne
  cases pl with
  | nil => exact (this rfl).elim
  | cons a l => simp
def intN : Value → Int
  | .int _ n => n
  | _ => 0
def insC (w : World) (x : Addr) (i : InsV) : Prop := w.cell? ⟨x.block, x.off, none⟩ = some (.int .i64 i.1) ∧ w.cell? ⟨x.block, x.off + 1, none⟩ = some (.string i.2.1) ∧ w.cell? ⟨x.block, x.off + 2, none⟩ = some (.string i.2.2)
set_option maxHeartbeats 4000000 in
set_option maxRecDepth 100000 in
theorem check_many (w : World) (ad : Option Addr) (n cap : Nat) (h : 120 < n) : Calls Try.prog 23 #[.slice ad n cap] w fun e w' => e = .returned (errV 13) ∧ Below w.heap.size w w' := by
  have hn : (120 : Int) < n := by omega
  go_enter Try.func23, Try.ntmps23
  go_wp2
  go_ret
  exact ⟨rfl, Below.refl _ _⟩
theorem ck_step {T f : Nat} {E : Task → Option Res} {i : InsV} {is : List InsV} {c : CkS} {r : Res} (h : (ckProg T f (i :: is) c).run E = some r) : ∃ b, E (.call f [insAV i] []) = some (.ret (.s (.bool b)) []) ∧
    (∀ c2, ckOne c b i = (0, c2) → (ckProg T f is { c2 with ahead := i.1 }).run E = some r) ∧ (∀ n c2, ckOne c b i = (n + 1, c2) → r = .ret (codeN T (n + 1)) []) := by
  unfold ckProg at h
  simp only [Prog.run] at h
  split at h
  · rename_i r0 hr0
    split at h
    · rename_i b
      refine ⟨b, hr0, fun c2 e => ?_, fun n c2 e => ?_⟩
      · rw [e] at h
        exact h
      · rw [e] at h
        exact okR_run h
    · exact (noR_run h).elim
  · cases h
set_option maxHeartbeats 4000000 in
set_option maxRecDepth 100000 in
theorem check_walk (w : World) (E : Task → Option Res) (is : List InsV) (r : Res) (ad : Option Addr) (cap : Nat) (hcap : is.length ≤ cap) (hn : is.length ≤ 120) (had : is ≠ [] → ∃ blk off, ad = some ⟨blk, off, none⟩ ∧ blk < w.heap.size ∧ ∀ j i, is[j]? = some i → insC w ⟨blk, off + j * 3, none⟩ i)
    (hr : (ckProg 39 59 is ck0).run E = some r)
    (hMay : ∀ i ∈ is, ∀ b, E (.call 59 [insAV i] []) = some (.ret (.s (.bool b)) []) → ∀ w1, Below w.heap.size w w1 → Calls Try.prog 59 #[.agg #[.int .i64 i.1, .string i.2.1, .string i.2.2]] w1 fun e w' => e = .returned (.bool b) ∧ Below w1.heap.size w1 w') :
    Calls Try.prog 23 #[.slice ad is.length cap] w fun e w' => ∃ n, r = .ret (codeN 39 n) [] ∧ e = .returned (errV n) ∧ Below w.heap.size w w' := by
  obtain ⟨hC0, hB0⟩ := new_ck w
  have hmm := @run_makeMap Try.prog
  have hn2 : (is.length : Int) ≤ 120 := by omega
  go_enter Try.func23, Try.ntmps23
  go_wp2
  go_loopw [18] (fun i wr => ∃ (j : Nat) (c : CkS), j ≤ is.length ∧ i = .int .i64 j ∧ CkIs wr w.heap.size (w.heap.size + 1 + 1) c j ∧ Below w.heap.size w wr ∧ (ckProg 39 59 (is.drop j) c).run E = some r)
    (fun i _ => is.length - (intN i).toNat)
  case atStart => exact ⟨0, ck0, Nat.zero_le _, rfl, hC0, hB0, hr⟩
  case round =>
    obtain ⟨j, c, hj, rfl, hC, hB, hrun⟩ := hrel
    by_cases hjl : j < is.length
    · have hjn : (j : Int) < is.length := by omega
      have hg : is[j]? = some is[j] := List.getElem?_eq_getElem hjl
      obtain ⟨blk, off, rfl, hblk, hcell⟩ := had (by rintro rfl; simp at hjl)
      obtain ⟨k0, k1, k2⟩ := hcell j is[j] hg
      have tr : ∀ x, wr.cell? ⟨blk, x, none⟩ = w.cell? ⟨blk, x, none⟩ := fun x => World.cell?_of_block (hB.block blk hblk)
      have l0 := (tr _).trans k0
      have l1 := (tr _).trans k1
      have l2 := (tr _).trans k2
      rw [List.drop_eq_getElem_cons hjl] at hrun
      obtain ⟨b, hE, st0, st1⟩ := ck_step hrun
      have hM := hMay is[j] (List.getElem_mem hjl) b hE
      generalize hi : is[j] = i at *
      obtain ⟨o, a, k⟩ := i
      have hwr := hB.size
      have hB2 : Below w.heap.size w (insW wr o a k) := hB.alloc hwr _
      have hC2 : CkIs (insW wr o a k) w.heap.size (w.heap.size + 1 + 1) c j := hC.below ((Below.refl _ wr).alloc (Nat.le_refl _) _)
      have hM2 : ∀ w1, Below w.heap.size (insW wr o a k) w1 → _ := fun w1 h1 => hM w1 (hB2.trans h1)
      have hone := c_one (insW wr o a k) w.heap.size (w.heap.size + 1 + 1) c j o a k b hB2.size hC2 (by omega) (by omega) hM2
      cases hck : ckOne c b (o, a, k) with
      | mk n c2 =>
        rw [hck] at hone
        cases n with
        | zero =>
          have hone : Calls _ _ _ _ fun e w' => e = .returned .nilIface ∧ _ ∧ _ := hone
          go_wp2_with (go_at_call 61; refine hone.mono ?_; rintro e w3 ⟨rfl, r1, r2⟩; obtain ⟨x1, x2, x3⟩ := r1 (by trivial); obtain ⟨-, f1, f2, -⟩ := x1.facts; have f3 := f2 1; have hI : w3.heap[wr.heap.size]? = some (.cells #[.int .i64 o, .string a, .string k] 38 (0, 0)) := (x3 _ _ (heap_alloc_new wr _)).trans (heap_alloc_new wr _); have q0 : w3.cell? ⟨wr.heap.size, 0, none⟩ = some (.int .i64 o) := (Lib.cell_of_heap hI 0).trans rfl)
          go_roundw
          case rel =>
            refine ⟨j + 1, { c2 with ahead := o }, by omega, by simp, x1.ahead o x2, (hB2.trans r2).setCell (p := ⟨w.heap.size + 1 + 1, 1, none⟩) (by show w.heap.size ≤ w.heap.size + 1 + 1; omega) _, st0 c2 hck⟩
          case measure => simp [intN]; omega
        | succ n =>
          have hone : Calls _ _ _ _ fun e w' => e = .returned (.iface 39 (.int .i64 (n + 1 : Nat))) ∧ _ ∧ _ := hone
          go_wp2_with (go_at_call 61; refine hone.mono ?_; rintro e w3 ⟨rfl, r1, r2⟩)
          go_wp2
          go_ret
          exact ⟨n + 1, by first | exact st1 n c2 hck | rfl, rfl, hB2.trans r2⟩
    · have hje : j = is.length := by omega
      have hjn : ¬ (j : Int) < is.length := by omega
      rw [hje, List.drop_length] at hrun
      have hrr := okR_run hrun
      obtain ⟨⟨g, cap2, f0⟩, -, -, f4⟩ := hC.facts
      by_cases hl : 1 < c.l.length
      · have hl2 : (1 : Int) < c.l.length := by omega
        rw [if_pos hl] at hrr
        go_wp2
        go_ret
        exact ⟨8, by first | rfl | exact hrr, rfl, hB⟩
      · have hl2 : ¬ (1 : Int) < c.l.length := by omega
        rw [if_neg hl] at hrr
        go_wp2
        go_ret
        exact ⟨0, by first | rfl | exact hrr, rfl, hB⟩
end Go.Va.Vc
set_option linter.unusedVariables false
namespace Go.Va
open Go.Proofs Go.RowKit
/-- of what a call was given only what never changes -/
def stripG (γ : Gh) : Gh := { cls := fun b => match γ.cls b with | .imm o => .imm o | .ro o => .ro o | _ => .other, ob := fun _ => none }
theorem strip_imm {γ : Gh} {b : Nat} {o : Go.Obj} : (stripG γ).cls b = .imm o ↔ γ.cls b = .imm o := by
  unfold stripG
  dsimp only
  split <;> simp_all
theorem strip_ro {γ : Gh} {b : Nat} {o : Go.Obj} : (stripG γ).cls b = .ro o ↔ γ.cls b = .ro o := by
  unfold stripG
  dsimp only
  split <;> simp_all
theorem strip_wd {c : Cx} {γ : Gh} {w w1 : World} (h : Wd c γ w) (k : Below w.heap.size w w1) : Wd c (stripG γ) w1 where
  still b o hb := by
    have hb' : γ.cls b = .imm o ∨ γ.cls b = .ro o := hb.imp strip_imm.1 strip_ro.1
    have hlt : b < w.heap.size := by
      rcases Nat.lt_or_ge b w.heap.size with q | q
      · exact q
      · rw [h.new b q] at hb'
        rcases hb' with z | z <;> cases z
    rw [k.block b hlt]
    exact h.still b o hb'
  low b hb := by
    obtain ⟨o, h1, h2⟩ := h.low b hb
    exact ⟨o, h1, strip_imm.2 h2⟩
  new b hb := by
    have := h.new b (Nat.le_trans k.size hb)
    unfold stripG
    dsimp only
    rw [this]
  size := Nat.le_trans h.size k.size
  os := k.os.trans h.os
  tape := k.tape.trans h.tape
  out := k.output.trans h.out
theorem strip_hp (γ : Gh) (w : World) : Hp (stripG γ) { n := 0, k := 0, fr := [], O := [] } w where
  obj i o h := by simp [objAt, lget] at h
  fresh i _ := rfl
  back i b h := by simp [stripG] at h
  k := Nat.le_refl _
/-- a call over no objects, in the midst of another -/
theorem calls_in {c : Cx} {γ : Gh} {w w1 : World} (h : Wd c γ w) (k : Below w.heap.size w w1) {f : Nat} {ys : List AV} {v : AV} (hc : CallOk c f ys [] v []) {us : List Value} (hl : ys.length = us.length)
    (ha : ∀ (γ : Gh) (w : World) (j : Nat) (y : AV) (u : Value), ys[j]? = some y → us[j]? = some u → R γ w ⟨.slot j, []⟩ y u) (hno : ∀ (j : Nat) (y : AV), ys[j]? = some y → y.isAl = false)
    (hent : ∀ (us : Array Value) (w : World), (callFunc f us).run c.P w = .ok (.enter f us) w) :
    Calls c.P f us.toArray w1 fun e w' => ∃ r, e = .returned r ∧ (∃ γ, R γ w' (lim 0) v r) ∧ Below w1.heap.size w1 w' := by
  have hw := strip_wd h k
  rcases hc (stripG γ) w1 us ⟨hw, strip_hp γ w1, hl, fun j y u h1 h2 => ha _ _ j y u h1 h2, hno⟩ with ⟨r, w', hr, -⟩ | ⟨-, hc⟩
  · rw [hent] at hr
    cases hr
  · refine hc.mono ?_
    rintro e w' ⟨r, rfl, γ', h1, h2, h3, h4, h5, h6⟩
    refine ⟨r, rfl, ⟨γ', h4⟩, h1.os.trans hw.os.symm, h1.tape.trans hw.tape.symm, h1.out.trans hw.out.symm, h3.size, fun x hx => ?_⟩
    have e1 : (∃ o, (stripG γ).cls x = .imm o) ∨ (∃ o, (stripG γ).cls x = .ro o) ∨ (stripG γ).cls x = .other := by
      unfold stripG
      dsimp only
      split
      · exact .inl ⟨_, rfl⟩
      · exact .inr (.inl ⟨_, rfl⟩)
      · exact .inr (.inr rfl)
    rcases e1 with ⟨o, e⟩ | ⟨o, e⟩ | e
    · rw [h1.still x o (.inl (h3.imm x o e)), hw.still x o (.inl e)]
    · rw [h1.still x o (.inr (h3.ro x o e)), hw.still x o (.inr e)]
    · exact (h3.other x hx e).2
theorem ins_of_agg {x : AV} {i : InsV} (h : insOf x = some i) : x = insAV i := by
  unfold insOf at h
  split at h
  · cases h
    rfl
  · cases h
theorem insL_len : ∀ {xs : List AV} {l : List InsV}, insL xs = some l → xs = l.map insAV
  | [], l, h => by
    simp [insL] at h
    subst h
    rfl
  | x :: xs, l, h => by
    unfold insL at h
    split at h
    · rename_i y ys h1 h2
      cases h
      rw [ins_of_agg h1, insL_len h2]
      rfl
    · cases h
theorem dn_ins {cls : Nat → Cls} {w : World} {blk : Nat} {o : Go.Obj} (hb : w.heap[blk]? = some o) : ∀ (l : List InsV) (off : Nat), Dn cls (l.map insAV) 3 o off → ∀ j i, l[j]? = some i → Vc.insC w ⟨blk, off + j * 3, none⟩ i
  | [], off, _, j, i, h => by simp at h
  | i0 :: l, off, hd, j, i, h => by
    rw [List.map_cons] at hd
    simp only [Dn] at hd
    obtain ⟨vs, h1, h2, h3, h4⟩ := hd
    cases j with
    | succ j =>
      have := dn_ins hb l (off + 3) h4 j i (by simpa using h)
      rw [show off + 3 + j * 3 = off + (j + 1) * 3 by omega] at this
      exact this
    | zero =>
      simp at h
      subst h
      unfold insAV at h1
      simp only [D, Dl] at h1
      obtain ⟨v0, vs0, e0, -, ⟨g0, -⟩, v1, vs1, e1, -, ⟨g1, -⟩, v2, vs2, e2, -, ⟨g2, -⟩, e3⟩ := h1
      simp at g0 g1 g2
      subst g0 g1 g2 e3 e2 e1 e0
      obtain ⟨c, e, fz, rfl, hc⟩ := h3
      refine ⟨?_, ?_, ?_⟩
      · simp [World.cell?, hb]; exact hc 0 _ rfl
      · simp [World.cell?, hb]; exact hc 1 _ rfl
      · simp [World.cell?, hb]; exact hc 2 _ rfl
theorem check_ok {w0 : World} {E : Task → Option Res} (hE : ∀ t r, E t = some r → TaskOk { P := Try.prog, w0 := w0 } t r) {ys : List AV} {O : Seg} {r : Res} (h : (yCheck 39 59 ys O).run E = some r) : TaskOk { P := Try.prog, w0 := w0 } (.call 23 ys O) r := by
  have post : ∀ n : Nat, (codeN 39 n).resOk = true ∧ ∀ γ w l, R γ w l (codeN 39 n) (Vc.errV n) := by
    intro n
    cases n with
    | zero => exact ⟨rfl, fun γ w l => by unfold codeN Vc.errV; simp only [R]; exact ⟨trivial, trivial⟩⟩
    | succ n => exact ⟨rfl, fun γ w l => by unfold codeN Vc.errV; simp only [R]; exact ⟨rfl, trivial⟩⟩
  have key : ∀ (l : List InsV) (p : Perm), (p = .imm ∨ p = .ro) → ∀ r, (bif Nat.blt 120 l.length then okR (codeN 39 13) [] else ckProg 39 59 l ck0).run E = some r → TaskOk { P := Try.prog, w0 := w0 } (.call 23 [.sl 3 (l.map insAV) p] []) r := by
    intro l p hp r h
    cases r with
    | code e st =>
      exfalso
      cases hb : Nat.blt 120 l.length with
      | true => rw [hb] at h; cases okR_run h
      | false =>
        rw [hb] at h
        simp only [cond_false] at h
        have : ∀ (l : List InsV) (c : CkS), (ckProg 39 59 l c).run E = some (.code e st) → False := by
          intro l
          induction l with
          | nil => intro c h; cases okR_run h
          | cons i l ih =>
            intro c h
            obtain ⟨b, -, h1, h2⟩ := Vc.ck_step h
            cases hk : ckOne c b i with
            | mk n c2 =>
              cases n with
              | zero => exact ih _ (h1 c2 hk)
              | succ n => cases h2 n c2 hk
        exact this l ck0 h
    | ret v O2 =>
      intro γ w us g
      match us, g.len, g with
      | [u], _, g =>
        have h0 := g.arg 0 _ u rfl rfl
        have hu : ∃ a cap, u = .slice a l.length cap ∧ l.length ≤ cap ∧ (l ≠ [] → ∃ blk off o, a = some ⟨blk, off, none⟩ ∧ w.heap[blk]? = some o ∧ Dn γ.cls (l.map insAV) 3 o off) := by
          rcases hp with rfl | rfl
          · simp only [R, V, D] at h0
            obtain ⟨a, cap, e, hc, hx⟩ := h0
            simp at e
            refine ⟨a, cap, by rw [e] <;> simp, by simpa using hc, fun hne => ?_⟩
            rcases hx with hx | ⟨b, off, o, ha, hb, hd⟩
            · exact (hne (by simpa using hx)).elim
            · exact ⟨b, off, o, ha, g.wd.still b o (.inl hb), hd⟩
          · simp only [R, V] at h0
            obtain ⟨a, cap, e, hc, hx⟩ := h0
            refine ⟨a, cap, by rw [e] <;> simp, by simpa using hc, fun hne => ?_⟩
            rcases hx with hx | ⟨b, off, o, ha, hb, hd⟩
            · exact (hne (by simpa using hx)).elim
            · exact ⟨b, off, o, ha, g.wd.still b o (.inr hb), hd⟩
        obtain ⟨a, cap, rfl, hcap, hel⟩ := hu
        refine .inr ⟨enters Try.func23 rfl (by kernel_rfl) _ w, ?_⟩
        cases hb : Nat.blt 120 l.length with
        | true =>
          rw [hb] at h
          cases okR_run h
          refine (Vc.check_many w a l.length cap (blt_t hb)).mono ?_
          rintro e w' ⟨rfl, hw⟩
          exact ⟨_, rfl, post_below g hw ((post 13).2 _ _ _) rfl⟩
        | false =>
          rw [hb] at h
          have hn := blt_f hb
          refine (Vc.check_walk w E l _ a cap hcap (by omega) (fun hne => ?_) h ?_).mono ?_
          · obtain ⟨blk, off, o, ha, ho, hd⟩ := hel hne
            exact ⟨blk, off, ha, (Array.getElem?_eq_some_iff.1 ho).1, fun j i hi => dn_ins ho l off hd j i hi⟩
          · intro i _ b hEb w1 hw1
            have hc := calls_in g.wd hw1 (hE _ _ hEb) (us := [.agg #[.int .i64 i.1, .string i.2.1, .string i.2.2]]) rfl ?_ ?_ (fun us w => enters Try.func59 rfl (by kernel_rfl) us w)
            · refine hc.mono ?_
              rintro e w' ⟨r, rfl, ⟨γ', hr⟩, hbel⟩
              refine ⟨?_, hbel⟩
              simp only [R] at hr
              rw [hr.1]
            · intro γ w j y u h1 h2
              match j with
              | 0 =>
                cases h1
                cases h2
                unfold insAV
                simp only [R, Rl]
                exact ⟨_, rfl, by simp [one], _, _, rfl, ⟨rfl, trivial⟩, _, _, rfl, ⟨rfl, trivial⟩, _, _, rfl, ⟨rfl, trivial⟩, rfl⟩
              | j + 1 => simp at h1
            · intro j y h1
              match j with
              | 0 => cases h1; rfl
              | j + 1 => simp at h1
          · rintro e w' ⟨n, hr, rfl, hw⟩
            cases hr
            exact ⟨_, rfl, post_below g hw ((post n).2 _ _ _) (post n).1⟩
  unfold yCheck at h
  split at h
  · rename_i xs
    unfold ckAll at h
    split at h
    · rename_i l hl
      rw [insL_len hl]
      exact key l .imm (.inl rfl) r h
    · exact (noR_run h).elim
  · rename_i xs
    unfold ckAll at h
    split at h
    · rename_i l hl
      rw [insL_len hl]
      exact key l .ro (.inr rfl) r h
    · exact (noR_run h).elim
  · exact (noR_run h).elim
end Go.Va

/- The verified abstract interpreter, a part of it: no statement of its own. -/
import Derived.Test.YtmklimlepgiffabVa37
set_option linter.unusedVariables false
set_option linter.unusedSimpArgs false
set_option linter.unusedVariables false
namespace Go.Va
section
variable {c : Cx} {γ : Gh} {w : World}
theorem obj_cell {O : Seg} {i off : Nat} {o : Obj} {x : AV} (hp : Hp γ { n := 0, k := O.length, fr := [], O := O } w) (ho : lget O i = some o) (hx : o[off]? = some x) :
    ∃ b cs el v, γ.ob i = some b ∧ γ.cls b = .obj i ∧ w.heap[b]? = some (.cells cs el (0, 0)) ∧ cs.size = o.length ∧ bldOk el o.length = true ∧ cs[off]? = some v ∧ one v ∧ R γ w ⟨.cell i off, []⟩ x v := by
  obtain ⟨b, cs, el, h1, h2, h3, h4, h5, h6⟩ := hp.obj i o ho
  obtain ⟨v, v1, v2, v3⟩ := h6 off x hx
  exact ⟨b, cs, el, v, h1, h2, h3, h4, h5, v1, v2, v3⟩
/-- a cell of an object is written -/
theorem put_cell {O : Seg} {i off b : Nat} {o : Obj} {x y : AV} {v : Value} {cs : Array Value} {el : TypeId} (wd : Wd c γ w) (hp : Hp γ { n := 0, k := O.length, fr := [], O := O } w) (ho : lget O i = some o)
    (hx : o[off]? = some x) (hb : γ.ob i = some b) (hh : w.heap[b]? = some (.cells cs el (0, 0))) (hv : one v) (hr : ∀ w', R γ w' ⟨.cell i off, []⟩ y v) :
    Wd c γ (w.setRow b (cs.setIfInBounds off v)) ∧ Hp γ { n := 0, k := O.length, fr := [], O := lset O i (lset o off y) } (w.setRow b (cs.setIfInBounds off v)) ∧
      Ext γ { n := 0, k := O.length, fr := [], O := O } w γ { n := 0, k := O.length, fr := [], O := lset O i (lset o off y) } (w.setRow b (cs.setIfInBounds off v)) := by
  have hcls := hp.back i b hb
  have hil : i < O.length := by
    by_cases q : i < O.length
    · exact q
    · rw [lget_eq, List.getElem?_eq_none (by omega)] at ho; cases ho
  have hol : off < o.length := by
    by_cases q : off < o.length
    · exact q
    · rw [List.getElem?_eq_none (by omega)] at hx; cases hx
  refine ⟨row_wd wd (by intro o; rw [hcls]; simp), ⟨fun j p hj => ?_, fun j hj => hp.fresh j (by rw [lset_eq] at hj; simpa using hj), hp.back, by rw [lset_eq]; simp⟩, row_ext (by rw [hcls]; simp) rfl⟩
  have hrow : ∀ l, Keeps γ γ w (w.setRow b (cs.setIfInBounds off v)) l l := fun l => row_keeps (by intro q; rw [hcls]; simp)
  have hj : (lset O i (lset o off y))[j]? = some p := by simpa [objAt, lget_eq] using hj
  rw [lset_eq, List.getElem?_set] at hj
  by_cases q : i = j
  · subst q
    rw [if_pos rfl, if_pos hil] at hj
    cases hj
    obtain ⟨b', cs', el', h1, h2, h3, h4, h5, h6⟩ := hp.obj i o ho
    rw [hb] at h1; cases h1
    rw [hh] at h3; cases h3
    refine ⟨b, _, el, hb, hcls, setRow_heap w b _ _ el (0, 0) hh, by rw [lset_eq]; simpa using h4, by rw [lset_eq, List.length_set]; exact h5, fun m z hz => ?_⟩
    rw [lset_eq, List.getElem?_set] at hz
    by_cases k : off = m
    · subst k
      rw [if_pos rfl, if_pos hol] at hz
      cases hz
      exact ⟨v, by simp [h4, hol], hv, hr _⟩
    · rw [if_neg k] at hz
      obtain ⟨u, u1, u2, u3⟩ := h6 m z hz
      exact ⟨u, by simp [Array.getElem?_setIfInBounds, k, u1], u2, R_keep z (hrow _) u u3⟩
  · rw [if_neg q] at hj
    obtain ⟨b', cs', el', h1, h2, h3, h4, h5, h6⟩ := hp.obj j p (by simpa [objAt, lget_eq] using hj)
    have hne : b' ≠ b := by
      rintro rfl
      rw [hcls] at h2
      cases h2
      exact q rfl
    refine ⟨b', cs', el', h1, h2, by rw [setRow_other w b b' _ hne]; exact h3, h4, h5, fun m z hz => ?_⟩
    obtain ⟨u, u1, u2, u3⟩ := h6 m z hz
    exact ⟨u, u1, u2, R_keep z (hrow _) u u3⟩
theorem cellOf_some {O : Seg} {i off : Nat} {x : AV} (h : cellOf O i off = some x) : ∃ o, lget O i = some o ∧ o[off]? = some x := by
  unfold cellOf at h
  split at h
  · rename_i o ho
    exact ⟨o, ho, by rwa [lget_eq] at h⟩
  · cases h
theorem cellSet_eq {O : Seg} {i off : Nat} {o : Obj} {y : AV} (ho : lget O i = some o) : cellSet O i off y = lset O i (lset o off y) := by
  simp only [cellSet, ho]
theorem frozen_no {b off : Nat} {cs : Array Value} {el : TypeId} (h : w.heap[b]? = some (.cells cs el (0, 0))) : w.frozen? ⟨b, off, none⟩ = false := by
  simp [World.frozen?, h]
theorem okS_run {E : Task → Option Res} {v : AV} {O : Seg} {r : Res} (h : (okS v O).run E = some r) : r = .ret v O ∧ allSegOk O = true := by
  unfold okS at h
  cases hs : allSegOk O with
  | true => rw [hs] at h; exact ⟨okR_run h, rfl⟩
  | false => rw [hs] at h; exact (noR_run h).elim
open Extern.Atomic in
theorem update_eq (op : IntKind → Int → Int → Sem Value) (k : IntKind) (addr y : Value) : update op k true #[addr, y] = (do
    let a ← asAddr addr
    let old ← read (.int k) a
    let new ← op k (← asInt old) (← asInt y)
    store a new .atomic
    pure new) := rfl
open Extern.Atomic in
theorem loadT_eq (t : T) (addr : Value) : loadT t #[addr] = (do read t (← asAddr addr)) := rfl
open Extern.Atomic in
theorem storeT_eq (addr val : Value) : storeT #[addr, val] = (do
    store (← asAddr addr) val .atomic
    pure none_) := rfl
/-- sync/atomic.AddInt64 -/
theorem add_ok {f : Nat} {fn : Func} (hf : c.P.funcs[f]? = some fn) (hname : (fn.name == "runtime.NumGoroutine") = false) (hb : fn.body.isNone = true) (hn : Extern.findNext fn = none)
    (he : Extern.find fn = some (Extern.Atomic.update (Op.intArith .add) .i64 true)) {E : Task → Option Res} {as : List AV} {O : Seg} {r : Res} (h : (xAddInt64 as O).run E = some r) : TaskOk c (.call f as O) r := by
  unfold xAddInt64 at h
  split at h
  · rename_i i off d
    split at h
    · rename_i n hc
      obtain ⟨rfl, hso⟩ := okS_run h
      intro γ w us g
      match us, g.len, g with
      | [u, v], _, g =>
          have h0 := g.arg 0 _ u rfl rfl
          have h1 := g.arg 1 _ v rfl rfl
          simp only [R] at h0 h1
          obtain ⟨rfl, -⟩ := h1
          obtain ⟨b, hob, rfl⟩ := h0
          obtain ⟨o, ho, hx⟩ := cellOf_some hc
          obtain ⟨b', cs, el, v0, k1, k2, k3, k4, k5, k6, k7, k8⟩ := obj_cell g.hp ho hx
          rw [hob] at k1; cases k1
          simp only [R] at k8
          obtain ⟨rfl, -⟩ := k8
          have hput := put_cell (y := .s (.int .i64 (IntKind.i64.wrap (n + d)))) (v := .int .i64 (IntKind.i64.wrap (n + d))) g.wd g.hp ho hx hob k3 trivial (fun w' => by simp [R, one])
          have hst := run_store c.P w ⟨b, off, none⟩ (.int .i64 (IntKind.i64.wrap (n + d))) .atomic rfl
          rw [cell_of k3, k6, frozen_no k3, setCell_eq_setRow w b off cs el (0, 0) _ k3] at hst
          simp only [Bool.false_eq_true, if_false] at hst
          refine .inl ⟨.int .i64 (IntKind.i64.wrap (n + d)), _, ?_, γ, hput.1, by rw [cellSet_eq ho]; exact hput.2.1, by rw [cellSet_eq ho]; exact hput.2.2, by simp [R, one], rfl, hso⟩
          rw [run_callFunc_extern hf hname hb hn he, show [Value.pointer (some ⟨b, off, none⟩), .int .i64 d].toArray = #[Value.pointer (some ⟨b, off, none⟩), .int .i64 d] from rfl, update_eq]
          simp [Extern.Atomic.read, asAddr, asInt, Op.intArith, cell_of k3, k6, asIntOf, hst]
    · exact (noR_run h).elim
  · exact (noR_run h).elim
theorem cell_at (b off : Nat) (o : Go.Obj) (v : Value) (vs : List Value) (u : Value) (hu : u = .pointer (some ⟨b, off, none⟩)) (h : w.heap[b]? = some o) (e : CellsAt o off (v :: vs)) {v0 : Value} (hv : v = v0) :
    ∃ b off, u = .pointer (some ⟨b, off, none⟩) ∧ w.cell? ⟨b, off, none⟩ = some v0 := by
  obtain ⟨cs, el, fz, rfl, k⟩ := e
  refine ⟨b, off, hu, ?_⟩
  rw [cell_of h, ← hv]
  exact k 0 v rfl
/-- sync/atomic.LoadInt64 -/
theorem load_ok {f : Nat} {fn : Func} (hf : c.P.funcs[f]? = some fn) (hname : (fn.name == "runtime.NumGoroutine") = false) (hb : fn.body.isNone = true) (hn : Extern.findNext fn = none)
    (he : Extern.find fn = some (Extern.Atomic.loadT (.int .i64))) {E : Task → Option Res} {as : List AV} {O : Seg} {r : Res} (h : (xLoadInt64 as O).run E = some r) : TaskOk c (.call f as O) r := by
  unfold xLoadInt64 at h
  split at h
  · rename_i i off
    split at h
    · rename_i n hc
      obtain ⟨rfl, hso⟩ := okS_run h
      intro γ w us g
      match us, g.len, g with
      | [u], _, g =>
        have h0 := g.arg 0 _ u rfl rfl
        simp only [R] at h0
        obtain ⟨b, hob, rfl⟩ := h0
        obtain ⟨o, ho, hx⟩ := cellOf_some hc
        obtain ⟨b', cs, el, v0, k1, k2, k3, k4, k5, k6, k7, k8⟩ := obj_cell g.hp ho hx
        rw [hob] at k1; cases k1
        simp only [R] at k8
        obtain ⟨rfl, -⟩ := k8
        refine .inl ⟨.int .i64 n, w, ?_, post_same g (by simp [R, one]) rfl hso⟩
        rw [run_callFunc_extern hf hname hb hn he]
        rw [show [Value.pointer (some ⟨b, off, none⟩)].toArray = #[Value.pointer (some ⟨b, off, none⟩)] from rfl, loadT_eq]
        simp [Extern.Atomic.read, asAddr, cell_of k3, k6]
    · exact (noR_run h).elim
  · rename_i ro n xs
    obtain ⟨rfl, hso⟩ := okS_run h
    intro γ w us g
    match us, g.len, g with
    | [u], _, g =>
      have h0 := g.arg 0 _ u rfl rfl
      have h0 : V γ.cls (.rp ro (.s (.int .i64 n) :: xs)) u := by simpa only [R] using h0
      have key : ∃ b off, u = .pointer (some ⟨b, off, none⟩) ∧ w.cell? ⟨b, off, none⟩ = some (.int .i64 n) := by
        cases ro with
        | false =>
          obtain ⟨b, off, o, vs, rfl, e2, e3, e4⟩ := h0
          simp only [Dl] at e3
          obtain ⟨v, vs', rfl, q1, q2, q3⟩ := e3
          simp only [D, AV.flat, List.cons.injEq, and_true] at q2
          exact cell_at b off o v vs' _ rfl (g.wd.still b o (.inl e2)) e4 q2.1
        | true =>
          obtain ⟨b, off, o, vs, rfl, e2, e3, e4⟩ := h0
          simp only [Vl] at e3
          obtain ⟨v, vs', rfl, q2, q3⟩ := e3
          simp only [V] at q2
          exact cell_at b off o v vs' _ rfl (g.wd.still b o (.inr e2)) e4 q2.1
      obtain ⟨b, off, rfl, hcell⟩ := key
      refine .inl ⟨.int .i64 n, w, ?_, post_same g (by simp [R, one]) rfl hso⟩
      rw [run_callFunc_extern hf hname hb hn he]
      rw [show [Value.pointer (some ⟨b, off, none⟩)].toArray = #[Value.pointer (some ⟨b, off, none⟩)] from rfl, loadT_eq]
      simp [Extern.Atomic.read, asAddr, hcell]
  · exact (noR_run h).elim
/-- sync/atomic.StoreInt64 -/
theorem store_ok {f : Nat} {fn : Func} (hf : c.P.funcs[f]? = some fn) (hname : (fn.name == "runtime.NumGoroutine") = false) (hb : fn.body.isNone = true) (hn : Extern.findNext fn = none)
    (he : Extern.find fn = some Extern.Atomic.storeT) {E : Task → Option Res} {as : List AV} {O : Seg} {r : Res} (h : (xStoreInt64 as O).run E = some r) : TaskOk c (.call f as O) r := by
  unfold xStoreInt64 at h
  split at h
  · rename_i i off d
    split at h
    · rename_i n hc
      obtain ⟨rfl, hso⟩ := okS_run h
      intro γ w us g
      match us, g.len, g with
      | [u, v], _, g =>
          have h0 := g.arg 0 _ u rfl rfl
          have h1 := g.arg 1 _ v rfl rfl
          simp only [R] at h0 h1
          obtain ⟨rfl, -⟩ := h1
          obtain ⟨b, hob, rfl⟩ := h0
          obtain ⟨o, ho, hx⟩ := cellOf_some hc
          obtain ⟨b', cs, el, v0, k1, k2, k3, k4, k5, k6, k7, k8⟩ := obj_cell g.hp ho hx
          rw [hob] at k1; cases k1
          have hput := put_cell (y := .s (.int .i64 d)) (v := .int .i64 d) g.wd g.hp ho hx hob k3 trivial (fun w' => by simp [R, one])
          have hst := run_store c.P w ⟨b, off, none⟩ (.int .i64 d) .atomic rfl
          rw [cell_of k3, k6, frozen_no k3, setCell_eq_setRow w b off cs el (0, 0) _ k3] at hst
          simp only [Bool.false_eq_true, if_false] at hst
          refine .inl ⟨.tuple #[], _, ?_, γ, hput.1, by rw [cellSet_eq ho]; exact hput.2.1, by rw [cellSet_eq ho]; exact hput.2.2, by simp [R, Rl], rfl, hso⟩
          rw [run_callFunc_extern hf hname hb hn he]
          rw [show [Value.pointer (some ⟨b, off, none⟩), .int .i64 d].toArray = #[Value.pointer (some ⟨b, off, none⟩), .int .i64 d] from rfl, storeT_eq]
          simp [Extern.Atomic.none_, asAddr, cell_of k3, k6, asIntOf, hst]
    · exact (noR_run h).elim
  · exact (noR_run h).elim
end
end Go.Va

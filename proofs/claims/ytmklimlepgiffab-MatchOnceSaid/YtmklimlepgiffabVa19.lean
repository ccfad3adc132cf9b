/- The verified abstract interpreter, a part of it: no statement of its own. -/
import Derived.Test.YtmklimlepgiffabVa18
set_option linter.unusedVariables false
set_option linter.unusedSimpArgs false
set_option linter.unusedVariables false
namespace Go.Va
section
variable {c : Cx} {γ : Gh} {st : St} {a : Act} {w : World} {o : Oper} {env : Env}

theorem El.rep {cls : Nat → Cls} {y : AV} {zc : Array Value} {n z : Nat} (hd : D cls y zc.toList) (hz : zc.size = z) : El cls (List.replicate n y) z (madeCells zc (n * z)) 0 := by
  intro j x hx
  rw [List.getElem?_replicate] at hx
  by_cases hj : j < n
  · rw [if_pos hj] at hx
    cases hx
    refine ⟨zc.toList, hd, by simpa using hz, fun i v hv => ?_⟩
    have hv' : zc[i]? = some v := by simpa using hv
    rw [Nat.zero_add, ← hz]
    refine madeCells_get ?_ hj hv'
    by_cases k : 0 < zc.size
    · exact k
    · rw [Array.getElem?_eq_none (by omega)] at hv'; cases hv'
  · rw [if_neg hj] at hx; cases hx
theorem val_buildSlice (E : EnvOk c.P env) (hi : Inv c γ st a w) {t : TypeId} {n : Nat} {ps : Array (Nat × Operand)} {y : AV} {st1 : St} (ho : o.op = .buildSlice t n ps) (h : stepV env st o.op = some (y, st1)) : Val c γ st st1 a w o y := by
  rw [ho] at h
  simp only [stepV] at h
  cases hte : env.elemOf t with
  | none => rw [hte] at h; cases h
  | some te =>
    rw [hte] at h
    simp only at h
    obtain ⟨e, hu, T⟩ := E.elem hte
    cases hv : valuesV env.A st ps.toList with
    | none => rw [hv] at h; cases h
    | some r =>
      obtain ⟨ys, st2⟩ := r
      rw [hv] at h
      simp only at h
      cases hd : (zeroOf te).data with
      | none => rw [hd] at h; cases h
      | some d =>
        rw [hd] at h
        simp only at h
        cases hf : setParts te.size (List.replicate n d) ys with
        | none => rw [hf] at h; cases h
        | some xs =>
          rw [hf] at h
          simp only at h
          cases hle : Nat.ble (n * te.size) 16777216 with
          | false => rw [hle] at h; cases h
          | true =>
            rw [hle] at h
            cases h
            have hle := ble_t hle
            obtain ⟨z, hz, hc, hzl⟩ := run_zero' T w
            obtain ⟨γ1, d1, hl, hg⟩ := valuesV_ok E.A ps.toList 1 hi hv
            obtain ⟨hl', hg'⟩ := values_get (a := a) hl (fun j n x e => by obtain ⟨y, e1, e2, _⟩ := hg j n x e; exact ⟨y, e1, e2⟩)
            obtain ⟨zd, zsz⟩ := zero_data γ1.cls hc hd
            have hzs : z.cells.size = te.size := by have := zl_len _ _ hzl; rw [← T.zlen, ← this]; simp
            obtain ⟨γ2, cs, i1, i2, i3, i4, i5, i6⟩ := setParts_ok ys _ 1 _ xs (madeCells z.cells (n * te.size)) d1.inv hl' hg' (El.rep zd hzs) (by rw [size_madeCells]; simp) hf
            have hxl : xs.length = n := by simpa using i5
            obtain ⟨p1, p2⟩ := push_ok i1 (Pushed.alloc w (.cells cs e)) (.own (lim 0)) (.inl ⟨_, rfl⟩)
            refine ⟨.slice (some ⟨w.heap.size, 0, none⟩) n n, _, _, ?_, p1, (d1.ext.trans i2).trans p2, .free ?_ (by simp) (by simp)⟩
            · have i6' : Instr.fill (fun i => some (i * te.size, te.size)) (madeCells z.cells (n * te.size)) (ps.map fun (i, x) => (i, a.eval x)).toList = some cs := by
                rw [← i6]; congr 1; simp
              have hbig : ¬ n * te.size > 2 ^ 24 := by simp; omega
              by_cases h0 : n * te.size = 0
              · have hm : madeCells z.cells (n * te.size) = madeCells #[] (n * te.size) := by rw [h0]; simp [madeCells]
                rw [hm] at i6'
                simp only [madeCells] at i6'
                simp only [execOp, ho, Instr.buildSlice, Sem.run_bind, run_underlying hu, Result.andThen_ok, run_sizeOf' T, if_neg hbig, Sem.run_pure, if_pos h0, i6', newRow, run_newObj, Sem.run_ite]
                rfl
              · simp only [madeCells] at i6'
                simp only [execOp, ho, Instr.buildSlice, Sem.run_bind, run_underlying hu, Result.andThen_ok, run_sizeOf' T, if_neg hbig, Sem.run_pure, if_neg h0, hz, i6', newRow, run_newObj, Sem.run_ite]
                rfl
            · simp only [R]
              right
              refine ⟨w.heap.size, n, cs, e, by rw [hxl], set_new .., (Pushed.alloc w _).new, by rw [i4, hxl], by omega, ?_⟩
              exact Dn_frame (set_keeps i1.wd (Pushed.alloc w (.cells cs e)) _ (lim 0)).imm _ _ _ _ (El.dn _ _ i3)
end
end Go.Va
set_option linter.unusedVariables false
namespace Go.Va
section
variable {c : Cx} {γ : Gh} {st : St} {a : Act} {w : World} {o : Oper} {env : Env}

theorem run_load_one {P : Program} {t : TypeId} {ty : Ty} (T : TyOk P t ty) (hag : ty.isAgg = false) {b off : Nat} {v : Value} (hv : w.cell? ⟨b, off, none⟩ = some v) :
    (Instr.loadAt t (.pointer (some ⟨b, off, none⟩))).run P w = .ok v w := by
  simp only [Instr.loadAt, Instr.sureAddr, loadVar, Sem.run_bind, Sem.run_pure, Result.andThen_ok, run_isAgg' T, hag, Bool.false_eq_true, if_false, run_load, hv]
theorem run_load_agg {P : Program} {t : TypeId} {ty : Ty} (T : TyOk P t ty) (hag : ty.isAgg = true) {b off : Nat} {vs : List Value} (hl : vs.length = ty.size) (hv : ∀ j v, vs[j]? = some v → w.cell? ⟨b, off + j, none⟩ = some v) :
    (Instr.loadAt t (.pointer (some ⟨b, off, none⟩))).run P w = .ok (.agg vs.toArray) w := by
  have := run_loadCells_list (P := P) w ⟨b, off, none⟩ vs (fun j v e => by rw [Addr.add_lit]; exact hv j v e)
  rw [hl] at this
  simp only [Instr.loadAt, Instr.sureAddr, loadVar, Sem.run_bind, Sem.run_pure, Result.andThen_ok, run_isAgg' T, hag, if_true, run_sizeOf' T, this]
theorem cell_of {b off : Nat} {cs : Array Value} {el : TypeId} {fz : Nat × Nat} (h : w.heap[b]? = some (.cells cs el fz)) : w.cell? ⟨b, off, none⟩ = cs[off]? := by
  simp [World.cell?, h]
theorem V_one {cls : Nat → Cls} {x : AV} {v : Value} (h : V cls x v) : one v := by
  cases x with
  | s u => simp only [V] at h; rw [h.1]; exact h.2
  | sl z xs p =>
    cases p with
    | imm => simp only [V, D] at h; obtain ⟨ad, cap, e, _⟩ := h; injection e with e; rw [e]; trivial
    | ro => simp only [V] at h; obtain ⟨ad, cap, e, _⟩ := h; rw [e]; trivial
    | full => simp [V] at h
  | rp r xs => obtain ⟨b, off, e⟩ := V_rp_ptr h; rw [e]; trivial
  | unk => simpa only [V] using h
  | _ => simp [V] at h
theorem V_R {γ : Gh} {w : World} {l : Loc} {x : AV} {v : Value} (h : V γ.cls x v) : R γ w l x v ∧ x.isAl = false ∧ x.free = true := by
  cases x with
  | s u => simp only [V] at h; simp only [R]; exact ⟨h, rfl, rfl⟩
  | sl z xs p => cases p <;> first | (simp only [R]; exact ⟨h, rfl, rfl⟩) | simp [V] at h
  | rp r xs => simp only [R]; exact ⟨h, rfl, rfl⟩
  | unk => simp only [R]; exact ⟨trivial, rfl, rfl⟩
  | _ => simp [V] at h
theorem isAl_no {x : AV} (h : x.isAl = false) : (∀ z h lo len, x ≠ .al z h lo len) ∧ (∀ h i off, x ≠ .ep h i off) := by
  constructor
  · intro _ _ _ _ e; subst e; cases h
  · intro _ _ _ e; subst e; cases h
theorem Vl_rl {γ : Gh} {w : World} {l : Loc} : ∀ (xs : List AV) (vs : List Value) (n : Nat), Vl γ.cls xs vs → Rl γ w l n xs vs ∧ ∀ v ∈ vs, one v
  | [], vs, n, h => by simp only [Vl] at h; subst h; simp [Rl]
  | x :: xs, vs, n, h => by
    simp only [Vl] at h
    obtain ⟨v, vs', rfl, h1, h2⟩ := h
    obtain ⟨k1, k2⟩ := Vl_rl (w := w) (l := l) xs vs' (n + 1) h2
    simp only [Rl]
    refine ⟨⟨v, vs', rfl, (V_R h1).1, k1⟩, fun u hu => ?_⟩
    rcases List.mem_cons.1 hu with rfl | hu
    · exact V_one h1
    · exact k2 u hu
theorem Vl_take {cls : Nat → Cls} : ∀ (n : Nat) (xs : List AV) (vs : List Value), Vl cls xs vs → Vl cls (xs.take n) (vs.take n)
  | 0, xs, vs, h => by simp [Vl]
  | n + 1, [], vs, h => by simp only [Vl] at h; subst h; simp [Vl]
  | n + 1, x :: xs, vs, h => by
    simp only [Vl] at h
    obtain ⟨v, vs', rfl, h1, h2⟩ := h
    simp only [List.take_succ_cons, Vl]
    exact ⟨v, _, rfl, h1, Vl_take n xs vs' h2⟩
theorem Vl_len {cls : Nat → Cls} : ∀ (xs : List AV) (vs : List Value), Vl cls xs vs → vs.length = xs.length
  | [], vs, h => by simp only [Vl] at h; rw [h]; rfl
  | x :: xs, vs, h => by simp only [Vl] at h; obtain ⟨v, vs', rfl, _, h2⟩ := h; simp [Vl_len xs vs' h2]
/-- cells that are read as a value -/
theorem cells_val {P : Program} {t : TypeId} {ty : Ty} (T : TyOk P t ty) {xs : List AV} {v : AV} {vs : List Value} {b off : Nat} {ob : Go.Obj} (hV : Vl γ.cls xs vs) (hC : CellsAt ob off vs) (hh : w.heap[b]? = some ob) (h : ofCells ty xs = some v) :
    ∃ u, (Instr.loadAt t (.pointer (some ⟨b, off, none⟩))).run P w = .ok u w ∧ ∀ l, R γ w l v u ∧ v.isAl = false := by
  obtain ⟨cs, el, fz, rfl, hc⟩ := hC
  unfold ofCells at h
  cases hag : ty.isAgg with
  | true =>
    rw [hag] at h
    simp only [cond_true] at h
    cases hb : Nat.ble ty.size xs.length with
    | false => rw [hb] at h; cases h
    | true =>
      rw [hb] at h
      cases h
      have hb := ble_t hb
      have hl : (vs.take ty.size).length = ty.size := by rw [List.length_take, Vl_len _ _ hV]; omega
      refine ⟨.agg (vs.take ty.size).toArray, run_load_agg T hag hl (fun j v e => ?_), fun l => ⟨?_, rfl⟩⟩
      · rw [cell_of hh]
        rw [List.getElem?_take] at e
        split at e
        · exact hc j v e
        · cases e
      · obtain ⟨k1, k2⟩ := Vl_rl (γ := γ) (w := w) (l := l) _ _ 0 (Vl_take ty.size _ _ hV)
        simp only [R]
        exact ⟨_, rfl, by simpa using k2, by simpa using k1⟩
  | false =>
    rw [hag] at h
    simp only [cond_false] at h
    cases xs with
    | nil => simp [lget] at h
    | cons x xs =>
      simp only [lget] at h
      cases h
      simp only [Vl] at hV
      obtain ⟨u, vs', rfl, h1, _⟩ := hV
      refine ⟨u, run_load_one T hag ?_, fun l => ⟨(V_R h1).1, (V_R (γ := γ) (w := w) (l := lim 0) h1).2.1⟩⟩
      rw [cell_of hh]
      simpa using hc 0 u (by simp)
end
end Go.Va
set_option linter.unusedVariables false
namespace Go.Va
section
variable {c : Cx} {γ : Gh} {st : St} {a : Act} {w : World} {o : Oper} {env : Env}

theorem load_run {t : TypeId} {x : Operand} {v u : Value} (ho : o.op = .load t x) (hx : a.eval x = v) (h : (Instr.loadAt t v).run c.P w = .ok u w) : (execOp a.eval o).run c.P w = .ok (.value u) w := by
  simp only [execOp, ho, hx, Sem.run_bind, h, Result.andThen_ok, Sem.run_pure]
/-- an element of the slice at a home -/
theorem home_elem (hi : Inv c γ st a w) {h : Home} {z : Nat} {xs : List AV} {p : Perm} (hx : homeGet st h = .sl z xs p) {i : Nat} {x : AV} (he : xs[i]? = some x) {u : Value} {b o0 cap : Nat}
    (hu : homeVal γ a w h = some u) (hb : u = .slice (some ⟨b, o0, none⟩) xs.length cap) : ∃ vs ob, w.heap[b]? = some ob ∧ D γ.cls x vs ∧ vs.length = z ∧ CellsAt ob (o0 + i * z) vs := by
  obtain ⟨u', hu', hr⟩ := home_rel (h := h) hi (by rw [hx]; simp)
  rw [hu] at hu'
  cases hu'
  rw [hx] at hr
  by_cases hp : p = .full
  · subst hp
    simp only [R] at hr
    rcases hr with ⟨rfl, _⟩ | ⟨b', cap', cs, el, e, h1, h2, h3, h4, h5⟩
    · simp at he
    · rw [hb] at e
      injection e with e _ _
      injection e with e
      injection e with e1 e2
      subst e1 e2
      obtain ⟨vs, k1, k2, k3⟩ := Dn_get xs h5 i x he
      exact ⟨vs, _, h2, k1, k2, k3⟩
  · obtain ⟨ad, cap', e, h1, h2⟩ := sl_cases hr hp
    rcases h2 with rfl | ⟨b', off, ob, rfl, h3, h4⟩
    · simp at he
    · rw [hb] at e
      injection e with e _ _
      injection e with e
      injection e with e1 e2
      subst e1 e2
      obtain ⟨vs, k1, k2, k3⟩ := Dn_get xs h4 i x he
      refine ⟨vs, ob, hi.wd.still b ob ?_, k1, k2, k3⟩
      cases p with
      | full => exact (hp rfl).elim
      | imm => exact .inl h3
      | ro => exact .inr h3
theorem V_cells (hi : Inv c γ st a w) {r : Bool} {xs : List AV} {b off : Nat} (h : V γ.cls (.rp r xs) (.pointer (some ⟨b, off, none⟩))) : ∃ vs ob, Vl γ.cls xs vs ∧ CellsAt ob off vs ∧ w.heap[b]? = some ob := by
  cases r with
  | false =>
    simp only [V] at h
    obtain ⟨b', off', ob, vs, e, h1, h2, h3⟩ := h
    cases e
    exact ⟨vs, ob, Dl_Vl _ _ h2, h3, hi.wd.still b ob (.inl h1)⟩
  | true =>
    simp only [V] at h
    obtain ⟨b', off', ob, vs, e, h1, h2, h3⟩ := h
    cases e
    exact ⟨vs, ob, h2, h3, hi.wd.still b ob (.inr h1)⟩
theorem lcut_get {α : Type} {xs : List α} {off n j : Nat} {x : α} (h : (lcut xs off n)[j]? = some x) : xs[off + j]? = some x ∧ j < n := by
  simp only [lcut] at h
  rw [List.getElem?_take] at h
  split at h
  · rw [List.getElem?_drop] at h; exact ⟨h, ‹_›⟩
  · cases h
end
end Go.Va

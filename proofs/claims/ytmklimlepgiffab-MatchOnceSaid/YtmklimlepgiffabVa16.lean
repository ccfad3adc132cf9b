/- The verified abstract interpreter, a part of it: no statement of its own. -/
import Derived.Test.YtmklimlepgiffabVa15
set_option linter.unusedVariables false
set_option linter.unusedSimpArgs false
set_option linter.unusedVariables false
namespace Go.Va

/-- What is on its way under k is laid down: its cell j at T j. -/
def Cls.spread (k : Nat) (T : Nat → Loc) : Cls → Cls
  | .own ⟨.limbo k', p⟩ => if k' = k then (match p with | [] => .own (T 0) | j :: q => .own ⟨(T j).base, (T j).path ++ q⟩) else .own ⟨.limbo k', p⟩
  | x => x
def Gh.spread (γ : Gh) (k : Nat) (T : Nat → Loc) : Gh := ⟨fun b => (γ.cls b).spread k T, γ.ob⟩
theorem Frz.spread (γ : Gh) (w : World) (k : Nat) (T : Nat → Loc) : Frz γ (γ.spread k T) w (lim k) := by
  refine ⟨fun b => ?_, rfl⟩
  simp only [Gh.spread]
  cases e : γ.cls b with
  | own l =>
    obtain ⟨base, p⟩ := l
    cases base with
    | limbo k' =>
      simp only [Cls.spread]
      by_cases h : k' = k
      · subst h
        rw [if_pos rfl]
        exact .inr ⟨⟨p, rfl⟩, .inr (by cases p <;> exact ⟨_, rfl⟩)⟩
      · rw [if_neg h]; exact .inl rfl
    | _ => exact .inl rfl
  | _ => exact .inl rfl
theorem spread_to {γ : Gh} {k : Nat} {T : Nat → Loc} {b j : Nat} {q : List Nat} (h : γ.cls b = .own ⟨.limbo k, j :: q⟩) : (γ.spread k T).cls b = .own ⟨(T j).base, (T j).path ++ q⟩ := by
  simp only [Gh.spread, h, Cls.spread, if_true]
theorem spread_to0 {γ : Gh} {k : Nat} {T : Nat → Loc} {b : Nat} (h : γ.cls b = .own ⟨.limbo k, []⟩) : (γ.spread k T).cls b = .own (T 0) := by
  simp only [Gh.spread, h, Cls.spread, if_true]
theorem spread_keeps (γ : Gh) (w : World) (k : Nat) (T : Nat → Loc) (j : Nat) : Keeps γ (γ.spread k T) w w ⟨.limbo k, [j]⟩ (T j) where
  imm := (Frz.spread γ w k T).keepsF.imm
  ro := (Frz.spread γ w k T).keepsF.ro
  own b q e := ⟨spread_to e, rfl⟩
  ob i b e := e
theorem cellOk_one {γ : Gh} {w : World} {l : Loc} {x : AV} {v : Value} (h : x.cellOk = true) (hu : x.isUnk = false) (hr : R γ w l x v) : one v := by
  cases x with
  | s u => simp only [R] at hr; rw [hr.1]; exact hr.2
  | ptr i off => simp only [R] at hr; obtain ⟨b, _, e⟩ := hr; rw [e]; trivial
  | unk => cases hu
  | rp r xs => simp only [R] at hr; obtain ⟨b, off, e⟩ := V_rp_ptr hr; rw [e]; trivial
  | sl z xs p =>
    by_cases hp : p = .full
    · subst hp
      simp only [R] at hr
      rcases hr with ⟨_, e⟩ | ⟨b, cap, cc, el, e, _⟩ <;> rw [e] <;> trivial
    · obtain ⟨ad, cap, e, _⟩ := sl_cases hr hp
      rw [e]; trivial
  | _ => cases h
theorem allCellOk_get : ∀ (xs : List AV), allCellOk xs = true → ∀ (j : Nat) (x : AV), xs[j]? = some x → x.cellOk = true
  | [], _, j, x, e => by simp at e
  | y :: xs, h, 0, x, e => by
    simp only [allCellOk, Bool.and_eq_true] at h
    simp at e; subst e; exact h.1
  | y :: xs, h, j + 1, x, e => by
    simp only [allCellOk, Bool.and_eq_true] at h
    exact allCellOk_get xs h.2 j x (by simpa using e)
/-- the cells of a value, laid down -/
theorem spread_cells {γ : Gh} {w : World} {k : Nat} {y : AV} {v : Value} (T : Nat → Loc) (hr : R γ w (lim k) y v) (hu : y.isUnk = false) (hc : allCellOk y.cells = true) :
    v.cells.size = y.cells.length ∧ ∀ j x, y.cells[j]? = some x → ∃ u, v.cells[j]? = some u ∧ one u ∧ R (γ.spread k T) w (T j) x u := by
  have single : y.cells = [y] → one v → v.cells.size = y.cells.length ∧ ∀ j x, y.cells[j]? = some x → ∃ u, v.cells[j]? = some u ∧ one u ∧ R (γ.spread k T) w (T j) x u := by
    intro hy h1
    have hv : v.cells = #[v] := by cases v <;> first | rfl | cases h1
    rw [hy, hv]
    refine ⟨rfl, fun j x hx => ?_⟩
    cases j with
    | zero =>
      simp at hx
      subst hx
      refine ⟨v, by simp, h1, ?_⟩
      rw [hy] at hc
      have hck : y.cellOk = true := by simpa [allCellOk] using hc
      cases y with
      | sl z xs p =>
        by_cases hp : p = .full
        · subst hp
          simp only [R] at hr ⊢
          refine hr.imp id ?_
          rintro ⟨b, cap, cs, el, e, h1, h2, h3, h4, h5⟩
          exact ⟨b, cap, cs, el, e, spread_to0 h1, h2, h3, h4, Dn_frame (Frz.spread γ w k T).keepsF.imm xs z _ 0 h5⟩
        · exact R_free (Frz.spread γ w k T).keepsF _ _ (by cases p <;> first | rfl | exact (hp rfl).elim) hr
      | s u => exact R_free (Frz.spread γ w k T).keepsF _ _ rfl hr
      | ptr i off => exact R_free (Frz.spread γ w k T).keepsF _ _ rfl hr
      | rp r xs => exact R_free (Frz.spread γ w k T).keepsF _ _ rfl hr
      | unk => simp only [R]
      | _ => cases hck
    | succ j => simp at hx
  cases y with
  | agg xs =>
    simp only [R] at hr
    obtain ⟨cs, rfl, ho, hl⟩ := hr
    refine ⟨by have := Rl_len xs hl; simpa [Value.cells, AV.cells] using this, fun j x hx => ?_⟩
    obtain ⟨u, e1, e2⟩ := Rl_get xs hl j x hx
    refine ⟨u, by simpa [Value.cells] using e1, ho u (List.mem_of_getElem? e1), ?_⟩
    rw [Nat.zero_add] at e2
    exact R_keep x (spread_keeps γ w k T j) u e2
  | unk => cases hu
  | _ =>
    first
    | exact single rfl (cellOk_one (by simpa [allCellOk, AV.cells] using hc) rfl hr)

section
variable {c : Cx} {γ : Gh} {st : St} {a : Act} {w : World} {o : Oper} {env : Env}
theorem val_alloc (E : EnvOk c.P env) (hi : Inv c γ st a w) {t : TypeId} {y : AV} {st1 : St} (ho : o.op = .alloc t) (h : stepV env st o.op = some (y, st1)) : Val c γ st st1 a w o y := by
  rw [ho] at h
  simp only [stepV] at h
  cases ht : env.ty t with
  | none => rw [ht] at h; cases h
  | some ty =>
    rw [ht] at h
    simp only at h
    cases hbo : bldOk t ty.zero.length with
    | false => rw [hbo] at h; cases h
    | true =>
    rw [hbo] at h
    cases h
    have T := E.tyOk ht
    obtain ⟨z, hz, _, hc⟩ := run_zero' T w
    obtain ⟨hI, hX⟩ := push_ok hi (Pushed.alloc w (.cells z.cells t)) (.own (lim 0)) (.inl ⟨_, rfl⟩)
    refine ⟨.pointer (some ⟨w.heap.size, 0, none⟩), _, _, ?_, hI, hX, .free ?_ (by simp) (by simp)⟩
    · simp only [execOp, ho, Instr.alloc, Sem.run_bind, hz, Result.andThen_ok, newVar, newRow, run_newObj, Sem.run_pure]
      rfl
    · simp only [R]
      refine ⟨w.heap.size, z.cells, t, rfl, set_new .., (Pushed.alloc w _).new, zl_one _ _ hc, hbo, zl_ok _ _ _ _ _ _ hc⟩
/-- n elements, all alike -/
theorem Dn_rep {cls : Nat → Cls} {y : AV} {vs : List Value} {cs : Array Value} {el : TypeId} {fz : Nat × Nat} (hd : D cls y vs) {z : Nat} (hz : vs.length = z) : ∀ (n off : Nat),
    (∀ i j v, i < n → vs[j]? = some v → cs[off + i * z + j]? = some v) → Dn cls (List.replicate n y) z (.cells cs el fz) off
  | 0, off, _ => by simp [Dn]
  | n + 1, off, h => by
    simp only [List.replicate_succ, Dn]
    refine ⟨vs, hd, hz, ⟨cs, el, fz, rfl, fun j v e => by have := h 0 j v (by omega) e; simpa using this⟩, ?_⟩
    refine Dn_rep hd hz n (off + z) (fun i j v hi e => ?_)
    have := h (i + 1) j v (by omega) e
    rwa [show off + z + i * z + j = off + (i + 1) * z + j by rw [Nat.add_mul]; omega]
theorem zc_sl {z : Nat} {xs : List AV} {p : Perm} {v : Value} (h : zc (.sl z xs p) v = true) : xs = [] ∧ p = .full ∧ v = .slice none 0 0 := by
  cases p with
  | full =>
    cases xs with
    | nil => cases v with
      | slice ad n m =>
        unfold zc at h
        split at h <;> first | (simp_all; done) | cases h
      | _ => simp [zc] at h
    | cons => simp [zc] at h
  | _ => simp [zc] at h
theorem zc_data {cls : Nat → Cls} {x x' : AV} {v : Value} (h : zc x v = true) (hd : x.data1 = some x') : D cls x' [v] ∧ x'.flat = true ∧ x'.cells = [x'] ∧ v.cells = #[v] := by
  have ho := zc_one h
  have hv : v.cells = #[v] := by cases v <;> first | rfl | cases ho
  have hr := zc_ok h ⟨cls, fun _ => none⟩ ⟨#[], fun _ _ => 0, 0, default, #[]⟩ (lim 0)
  cases x with
  | s u =>
    simp only [AV.data1] at hd
    cases hd
    simp only [R] at hr
    obtain ⟨rfl, h1⟩ := hr
    exact ⟨by simp [D, h1], rfl, rfl, hv⟩
  | sl z xs p =>
    obtain ⟨rfl, rfl, rfl⟩ := zc_sl h
    simp only [AV.data1] at hd
    cases hd
    exact ⟨by simp [D], rfl, rfl, hv⟩
  | _ => simp [AV.data1] at hd
theorem zl_data {cls : Nat → Cls} : ∀ (xs ys : List AV) (vs : List Value), zl xs vs = true → dataL xs = some ys → Dl cls ys vs ∧ ys.length = vs.length
  | [], ys, vs, h, hd => by
    simp only [dataL] at hd
    cases hd
    cases vs with
    | nil => exact ⟨by simp [Dl], rfl⟩
    | cons => simp [zl] at h
  | x :: xs, ys, [], h, hd => by simp [zl] at h
  | x :: xs, ys, v :: vs, h, hd => by
    simp only [zl, Bool.and_eq_true] at h
    simp only [dataL] at hd
    cases h1 : x.data1 with
    | none => rw [h1] at hd; cases hd
    | some x' =>
      cases h2 : dataL xs with
      | none => rw [h1, h2] at hd; cases hd
      | some xs' =>
        rw [h1, h2] at hd
        cases hd
        obtain ⟨d1, d2, _, _⟩ := zc_data (cls := cls) h.1 h1
        obtain ⟨e1, e2⟩ := zl_data xs xs' vs h.2 h2
        exact ⟨by simp only [Dl]; exact ⟨v, vs, rfl, d2, d1, e1⟩, by simp [e2]⟩
/-- a constant zero as an element -/
theorem zero_data {ty : Ty} {z : Value} (cls : Nat → Cls) (hc : zChk ty (some z) = true) {y : AV} (hy : (zeroOf ty).data = some y) :
    D cls y z.cells.toList ∧ y.cells.length = z.cells.size := by
  cases hag : ty.isAgg with
  | true =>
    simp only [zeroOf, hag, cond_true, AV.data] at hy
    cases hd : dataL ty.zero with
    | none => rw [hd] at hy; cases hy
    | some ys =>
      rw [hd] at hy
      cases hy
      cases z with
      | agg cs =>
        simp only [zChk, hag, Bool.true_and] at hc
        obtain ⟨e1, e2⟩ := zl_data (cls := cls) _ _ _ hc hd
        exact ⟨by simpa only [D, Value.cells] using e1, by simpa [AV.cells, Value.cells] using e2⟩
      | _ => simp [zChk, hag] at hc
  | false =>
    simp only [zeroOf, hag, cond_false] at hy
    have hc' : zl ty.zero [z] = true := by cases z <;> simp_all [zChk]
    cases hz : ty.zero with
    | nil => rw [hz] at hc'; simp [zl] at hc'
    | cons x xs =>
      rw [hz] at hc' hy
      simp only [zl, Bool.and_eq_true] at hc'
      have h1 : x.data1 = some y := by
        cases x <;> simp only [AV.data] at hy <;> first | exact hy | (simp [zc] at hc')
      obtain ⟨d1, d2, d3, d4⟩ := zc_data (cls := cls) hc'.1 h1
      rw [d4, d3]
      exact ⟨d1, rfl⟩
end
end Go.Va
set_option linter.unusedVariables false
namespace Go.Va
section
variable {c : Cx} {γ : Gh} {st : St} {a : Act} {w : World} {o : Oper} {env : Env}

theorem madeCells_get {z : Array Value} {n i j : Nat} {v : Value} (hz : 0 < z.size) (hi : i < n) (hj : z[j]? = some v) : (madeCells z (n * z.size))[i * z.size + j]? = some v := by
  have hj' : j < z.size := by
    by_cases k : j < z.size
    · exact k
    · rw [Array.getElem?_eq_none (by omega)] at hj; cases hj
  have hlt : i * z.size + j < n * z.size := by
    have : (i + 1) * z.size ≤ n * z.size := Nat.mul_le_mul_right _ (by omega)
    rw [Nat.add_mul] at this
    omega
  have hm : (i * z.size + j) % z.size = j := by
    rw [Nat.mul_comm, Nat.mul_add_mod, Nat.mod_eq_of_lt hj']
  simp only [madeCells]
  rw [Array.getElem?_map, Array.getElem?_range]
  rw [if_pos hlt]
  simp only [Option.map_some, hm]
  rw [getElem!_pos z j hj']
  rw [Array.getElem?_eq_getElem hj'] at hj
  exact hj
theorem val_makeSlice (E : EnvOk c.P env) (hi : Inv c γ st a w) {t : TypeId} {l q : Operand} {y : AV} {st1 : St} (ho : o.op = .makeSlice t l q) (h : stepV env st o.op = some (y, st1)) : Val c γ st st1 a w o y := by
  rw [ho] at h
  simp only [stepV] at h
  cases hte : env.elemOf t with
  | none => rw [hte] at h; cases h
  | some te =>
    rw [hte] at h
    simp only at h
    obtain ⟨e, hu, T⟩ := E.elem hte
    split at h
    · rename_i n m d hn hm hd
      rw [E.A] at h
      cases hk : realAr.neq n m && realAr.fit n te.bytes && Nat.beq d.cells.length te.size && Nat.ble 1 te.bytes with
      | false => rw [hk] at h; cases h
      | true =>
        rw [hk] at h
        cases h
        simp only [Bool.and_eq_true] at hk
        obtain ⟨⟨⟨k1, k2⟩, k3⟩, k4⟩ := hk
        have k1 : n = m := by simpa [realAr] using k1
        subst k1
        have k2 : n * te.bytes ≤ 70368744177664 := by simpa [realAr] using k2
        have k3 := beq_t k3
        have k4 := ble_t k4
        obtain ⟨k', en⟩ := opd_nat hi hn
        obtain ⟨k'', em⟩ := opd_nat hi hm
        obtain ⟨i, hi1, hs, hb, _, _, z, hz, hc⟩ := T.info
        obtain ⟨zd, zsz⟩ := zero_data (γ.set w.heap.size (.own (lim 0))).cls hc hd
        have hnb : n ≤ n * te.bytes := Nat.le_mul_of_pos_right _ k4
        have hrun := run_make (P := c.P) w t e i z hu hi1 hz k' k'' n n (by omega) (Int.le_refl _) (by rw [hb]; have : ((te.bytes * n : Nat) : Int) ≤ 281474976710656 := by rw [Nat.mul_comm]; omega
                                                                                                       rwa [Int.natCast_mul] at this) (by omega)
        obtain ⟨hI, hX⟩ := push_ok hi (Pushed.alloc w (.cells (madeCells z.cells (n * i.size)) e)) (.own (lim 0)) (.inl ⟨_, rfl⟩)
        refine ⟨.slice (some ⟨w.heap.size, 0, none⟩) n n, _, _, ?_, hI, hX, .free ?_ (by simp) (by simp)⟩
        · simp only [execOp, ho, en, em, Sem.run_bind, hrun, Result.andThen_ok, Sem.run_pure, Int.toNat_natCast]
        · simp only [R]
          right
          have hzs : z.cells.size = te.size := by rw [← zsz, k3]
          refine ⟨w.heap.size, n, _, e, by simp, set_new .., (Pushed.alloc w _).new, ?_, by simp, ?_⟩
          · rw [size_madeCells, hs]
          · refine Dn_rep zd (by rw [← hzs]; simp) n 0 (fun i' j v hi' hv => ?_)
            rw [Nat.zero_add, hs, ← hzs]
            have hv' : z.cells[j]? = some v := by simpa using hv
            refine madeCells_get ?_ hi' hv'
            by_cases k : 0 < z.cells.size
            · exact k
            · rw [Array.getElem?_eq_none (by omega)] at hv'; cases hv'
    · cases h

/-- nothing in a state speaks of what is on its way -/
theorem lim_inv {γ' : Gh} {k : Nat} (hi : Inv c γ st a w) (f : Frz γ γ' w (lim k)) : Inv c γ' st a w where
  wd := f.wd hi.wd
  hp := ⟨fun i o e => by
    obtain ⟨b, cs, el, h1, h2, h3, h4, hbe, h5⟩ := hi.hp.obj i o e
    refine ⟨b, cs, el, by rw [f.ob]; exact h1, f.obj h2, h3, h4, hbe, fun j x hx => ?_⟩
    obtain ⟨v, k1, k2, k3⟩ := h5 j x hx
    exact ⟨v, k1, k2, R_keep x (f.keeps (by simp)) v k3⟩, fun i h => by rw [f.ob]; exact hi.hp.fresh i h, fun i b e => by rw [f.ob] at e; exact f.obj (hi.hp.back i b e), hi.hp.k⟩
  fm := by
    have hV : ∀ h, homeVal γ' a w h = homeVal γ a w h := by
      intro h
      cases h with
      | slot => rfl
      | cell => simp only [homeVal, f.ob]
    refine ⟨fun t => R_keep _ (f.keeps (by simp)) _ (hi.fm.val t), fun t z h lo len e => ?_, fun t h i off e => ?_, hi.fm.n, hi.fm.defers⟩
    · rw [hV]; exact hi.fm.al t z h lo len e
    · rw [hV]; exact hi.fm.ep t h i off e

/-- A block comes to be an object. -/
def Gh.reg (γ : Gh) (i b : Nat) : Gh := ⟨fun x => if x = b then .obj i else γ.cls x, fun j => if j = i then some b else γ.ob j⟩
theorem reg_keeps {w' : World} {i b : Nat} {l : Loc} (hb : γ.cls b = .other ∨ ∃ l', γ.cls b = .own l' ∧ ∀ q, l' ≠ ⟨l.base, l.path ++ q⟩) (hi : γ.ob i = none) (hw : ∀ x, x ≠ b → γ.cls x ≠ .other → w'.heap[x]? = w.heap[x]?) :
    Keeps γ (γ.reg i b) w w' l l where
  imm x o e := by
    simp only [Gh.reg]
    rw [if_neg, e]
    rintro rfl
    rcases hb with hb | ⟨l', hb, _⟩ <;> rw [hb] at e <;> cases e
  ro x o e := by
    simp only [Gh.reg]
    rw [if_neg, e]
    rintro rfl
    rcases hb with hb | ⟨l', hb, _⟩ <;> rw [hb] at e <;> cases e
  own x q e := by
    have hne : x ≠ b := by
      rintro rfl
      rcases hb with hb | ⟨l', hb, hn⟩ <;> rw [hb] at e
      · cases e
      · injection e with e; exact hn q e
    refine ⟨by simp only [Gh.reg]; rw [if_neg hne, e], hw x hne (by rw [e]; simp)⟩
  ob j x e := by
    simp only [Gh.reg]
    rw [if_neg, e]
    rintro rfl
    rw [hi] at e; cases e
/-- a new block as a new object -/
theorem new_obj (hi : Inv c γ st a w) {w' : World} {cs : Array Value} {el : TypeId} {ob : Obj} (hp : Pushed w (.cells cs el (0, 0)) w') (hs : cs.size = ob.length) (hbe : bldOk el ob.length = true)
    (hc : ∀ j x, ob[j]? = some x → ∃ u, cs[j]? = some u ∧ one u ∧ R γ w ⟨.cell st.O.length j, []⟩ x u) :
    Inv c (γ.reg st.O.length w.heap.size) { st with O := st.O ++ [ob] } a w' ∧ Ext γ st w (γ.reg st.O.length w.heap.size) { st with O := st.O ++ [ob] } w' := by
  have hw := hi.wd
  have hnew : γ.cls w.heap.size = .other := hw.new _ (Nat.le_refl _)
  have hnone : γ.ob st.O.length = none := hi.hp.fresh _ (Nat.le_refl _)
  have keep : ∀ l, Keeps γ (γ.reg st.O.length w.heap.size) w w' l l := fun l => reg_keeps (.inl hnew) hnone (fun x _ hx => hp.old (cls_lt hw hx))
  have obk : ∀ {i b}, γ.ob i = some b → b < w.heap.size ∧ i ≠ st.O.length := fun {i b} e => ⟨cls_lt hw (by rw [hi.hp.back i b e]; simp), by rintro rfl; rw [hnone] at e; cases e⟩
  have hat : ∀ i, i ≠ st.O.length → objAt { st with O := st.O ++ [ob] } i = objAt st i := by
    intro i h
    simp only [objAt, lget_eq]
    by_cases k : i < st.O.length
    · rw [List.getElem?_append_left k]
    · rw [List.getElem?_eq_none (by simp; omega), List.getElem?_eq_none (by omega)]
  have hat2 : objAt { st with O := st.O ++ [ob] } st.O.length = some ob := by
    simp only [objAt, lget_eq]
    rw [List.getElem?_append_right (Nat.le_refl _)]
    simp
  have hcls : ∀ b, γ.cls b ≠ .other → (γ.reg st.O.length w.heap.size).cls b = γ.cls b := by
    intro b h
    simp only [Gh.reg]
    rw [if_neg]
    rintro rfl
    exact h hnew
  have hhome : ∀ h, (homeGet st h).owner = true → homeGet { st with O := st.O ++ [ob] } h = homeGet st h ∧ homeVal (γ.reg st.O.length w.heap.size) a w' h = homeVal γ a w h := by
    intro h ho
    cases h with
    | slot t => exact ⟨rfl, rfl⟩
    | cell i off =>
      have hne : i ≠ st.O.length := by
        rintro rfl
        simp only [homeGet, objAt, lget_eq] at ho
        rw [List.getElem?_eq_none (Nat.le_refl _)] at ho
        cases ho
      refine ⟨by simp only [homeGet, hat i hne], ?_⟩
      simp only [homeVal, Gh.reg]
      rw [if_neg hne]
      cases hb : γ.ob i with
      | none => rfl
      | some b => simp only [Option.bind_some, World.cell?]; rw [hp.old (obk hb).1]
  refine ⟨⟨⟨?_, ?_, ?_, ?_, ?_, ?_, ?_⟩, ⟨?_, ?_, ?_, ?_⟩, ⟨?_, ?_, ?_, hi.fm.n, hi.fm.defers⟩⟩, ⟨?_, ?_, ?_, ?_, ?_, rfl, ?_⟩⟩
  · intro b o' e
    have hne : b ≠ w.heap.size := by
      rintro rfl
      simp [Gh.reg] at e
    simp only [Gh.reg, if_neg hne] at e
    rw [hp.old (cls_lt hw (by rcases e with e | e <;> rw [e] <;> simp))]
    exact hw.still b o' e
  · intro b hb
    obtain ⟨o', e1, e2⟩ := hw.low b hb
    exact ⟨o', e1, by rw [hcls b (by rw [e2]; simp), e2]⟩
  · intro b hb
    rw [hp.size] at hb
    simp only [Gh.reg]
    rw [if_neg (by omega)]
    exact hw.new b (by omega)
  · rw [hp.size]; exact Nat.le_succ_of_le hw.size
  · rw [hp.os]; exact hw.os
  · rw [hp.tape]; exact hw.tape
  · rw [hp.out]; exact hw.out
  · intro i o' e
    by_cases hne : i = st.O.length
    · subst hne
      rw [hat2] at e
      cases e
      refine ⟨w.heap.size, cs, el, by simp [Gh.reg], by simp [Gh.reg], hp.new, hs, hbe, fun j x hx => ?_⟩
      obtain ⟨u, k1, k2, k3⟩ := hc j x hx
      exact ⟨u, k1, k2, R_keep x (keep _) u k3⟩
    · rw [hat i hne] at e
      obtain ⟨b, cs', el', h1, h2, h3, h4, hbe, h5⟩ := hi.hp.obj i o' e
      refine ⟨b, cs', el', by simp only [Gh.reg]; rw [if_neg hne, h1], by rw [hcls b (by rw [h2]; simp), h2], by rw [hp.old (obk h1).1]; exact h3, h4, hbe, fun j x hx => ?_⟩
      obtain ⟨v, k1, k2, k3⟩ := h5 j x hx
      exact ⟨v, k1, k2, R_keep x (keep _) v k3⟩
  · intro i h
    simp only [List.length_append, List.length_singleton] at h
    simp only [Gh.reg]
    rw [if_neg (by omega)]
    exact hi.hp.fresh i (by omega)
  · intro i b e
    simp only [Gh.reg] at e ⊢
    by_cases hne : i = st.O.length
    · rw [if_pos hne] at e
      cases e
      rw [if_pos rfl, hne]
    · rw [if_neg hne] at e
      rw [if_neg (by have := (obk e).1; omega)]
      exact hi.hp.back i b e
  · have := hi.hp.k
    simp only [List.length_append, List.length_singleton]
    omega
  · exact fun t => R_keep _ (keep _) _ (hi.fm.val t)
  · intro t z h lo len e
    obtain ⟨k1, k2⟩ := hi.fm.al t z h lo len e
    obtain ⟨m1, m2⟩ := hhome h k1
    rw [m1, m2]
    exact ⟨k1, k2⟩
  · intro t h i off e
    obtain ⟨k1, k2⟩ := hi.fm.ep t h i off e
    obtain ⟨m1, m2⟩ := hhome h k1
    rw [m1, m2]
    exact ⟨k1, k2⟩
  · exact (keep (lim 0)).imm
  · exact (keep (lim 0)).ro
  · intro b o' e
    simp only [Gh.reg] at e
    by_cases hne : b = w.heap.size
    · rw [if_pos hne] at e; cases e
    · rwa [if_neg hne] at e
  · intro b hb e
    refine ⟨?_, hp.old hb⟩
    simp only [Gh.reg]
    rw [if_neg (by omega)]
    exact e
  · rw [hp.size]; omega
  · intro i h
    have := hi.hp.k
    simp only [Gh.reg]
    rw [if_neg (by omega)]
end
end Go.Va

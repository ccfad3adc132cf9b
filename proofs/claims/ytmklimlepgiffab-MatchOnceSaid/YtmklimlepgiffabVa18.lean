/- The verified abstract interpreter, a part of it: no statement of its own. -/
import Derived.Test.YtmklimlepgiffabVa17
import Derived.Laws.Tables
set_option linter.unusedVariables false
set_option linter.unusedSimpArgs false
set_option linter.unusedVariables false
namespace Go.Va
section
variable {c : Cx} {γ : Gh} {st : St} {a : Act} {w : World} {o : Oper} {env : Env}

theorem values_get {l : List (Nat × Operand)} {ys : List (Nat × AV)} {γ1 : Gh} {k : Nat} (hl : ys.length = l.length)
    (h : ∀ j n x, l[j]? = some (n, x) → ∃ y, ys[j]? = some (n, y) ∧ R γ1 w (lim (k + j)) y (a.eval x)) :
    ys.length = (l.map fun p => (p.1, a.eval p.2)).length ∧ ∀ j n y, ys[j]? = some (n, y) → ∃ v, (l.map fun p => (p.1, a.eval p.2))[j]? = some (n, v) ∧ R γ1 w (lim (k + j)) y v := by
  refine ⟨by simpa using hl, fun j n y e => ?_⟩
  have hj : j < l.length := by
    rw [← hl]
    by_cases q : j < ys.length
    · exact q
    · rw [List.getElem?_eq_none (by omega)] at e; cases e
  obtain ⟨y', e1, e2⟩ := h j l[j].1 l[j].2 (by simp [hj])
  rw [e] at e1
  cases e1
  exact ⟨a.eval l[j].2, by simp [hj], e2⟩
theorem zl_laid (γ : Gh) (w : World) (T : Nat → Loc) (xs : List AV) (cs : Array Value) (h : zl xs cs.toList = true) : Laid γ w T xs cs := by
  refine ⟨by have := zl_len _ _ h; simpa using this, fun j x hx => ?_⟩
  have : ∀ (xs : List AV) (vs : List Value), zl xs vs = true → ∀ (j : Nat) (x : AV), xs[j]? = some x → ∃ u, vs[j]? = some u ∧ zc x u = true := by
    intro xs
    induction xs with
    | nil => intro vs _ j x e; simp at e
    | cons y ys ih =>
      intro vs h j x e
      cases vs with
      | nil => simp [zl] at h
      | cons v vs =>
        simp only [zl, Bool.and_eq_true] at h
        cases j with
        | zero => simp at e; subst e; exact ⟨v, by simp, h.1⟩
        | succ j => obtain ⟨u, e1, e2⟩ := ih vs h.2 j x (by simpa using e); exact ⟨u, by simpa using e1, e2⟩
  obtain ⟨u, e1, e2⟩ := this xs cs.toList h j x hx
  exact ⟨u, by simpa using e1, zc_one e2, zc_ok e2 γ w _⟩
theorem val_build (E : EnvOk c.P env) (hi : Inv c γ st a w) {t : TypeId} {ps : Array (Nat × Operand)} {y : AV} {st1 : St} (ho : o.op = .build t ps) (h : stepV env st o.op = some (y, st1)) : Val c γ st st1 a w o y := by
  rw [ho] at h
  simp only [stepV] at h
  cases ht : env.ty t with
  | none => rw [ht] at h; cases h
  | some ty =>
    rw [ht] at h
    simp only at h
    cases hv : valuesV env.A st ps.toList with
    | none => rw [hv] at h; cases h
    | some r =>
      obtain ⟨ys, st2⟩ := r
      rw [hv] at h
      simp only at h
      cases hag : ty.isAgg with
      | false => rw [hag] at h; cases h
      | true =>
        rw [hag] at h
        simp only [cond_true] at h
        cases hf : fillParts ty ty.zero ys with
        | none => rw [hf] at h; cases h
        | some xs =>
          rw [hf] at h
          cases h
          have T := E.tyOk ht
          obtain ⟨fs, hu, hc, _⟩ := T.kstruct hag
          obtain ⟨i, hi1, _, _, _, _, z, hz, hzc⟩ := T.info
          have hzl : zl ty.zero z.cells.toList = true := by
            unfold zChk at hzc
            cases z <;> simp_all [Value.cells]
          obtain ⟨γ1, d, hl, hg⟩ := valuesV_ok E.A ps.toList 1 hi hv
          obtain ⟨hl', hg'⟩ := values_get (a := a) hl (fun j n x e => by obtain ⟨y, e1, e2, _⟩ := hg j n x e; exact ⟨y, e1, e2⟩)
          obtain ⟨pl, hp1, hp2⟩ := places_ok _ _ hc
          obtain ⟨γ2, cs, i1, i2, i3, i4⟩ := fill_ok (places := (pl.toArray[·]?)) (fun n off sz e => by simpa using hp2 n off sz e) ys _ 1 ty.zero xs z.cells d.inv hl' hg' (by omega) (zl_laid γ1 w _ _ _ hzl) hf
          have hb : c.P.built t ((ps.map fun (i, x) => (i, a.eval x)).toList) = some cs := by
            unfold Program.built
            simp only [hi1, hu, hz, hp1]
            rw [← i4]
            congr 1
            simp
          refine ⟨.agg cs, w, γ2, ?_, i1, d.ext.trans i2, .free i3.agg (by simp) (by simp)⟩
          simp only [execOp, ho, Sem.run_bind, run_build w t _ _ hb, Result.andThen_ok, Sem.run_pure]
theorem val_box (E : EnvOk c.P env) (hi : Inv c γ st a w) {t : TypeId} {x : Operand} {y : AV} {st1 : St} (ho : o.op = .box t x) (h : stepV env st o.op = some (y, st1)) : Val c γ st st1 a w o y := by
  rw [ho] at h
  simp only [stepV] at h
  cases ht : env.ty t with
  | none => rw [ht] at h; cases h
  | some ty =>
    rw [ht] at h
    simp only at h
    cases hv : valueV env.A st x with
    | none => rw [hv] at h; cases h
    | some r =>
      obtain ⟨v, st2⟩ := r
      rw [hv] at h
      simp only at h
      cases hb : Nat.beq v.cells.length ty.size with
      | false => rw [hb] at h; cases h
      | true =>
        rw [hb] at h
        simp only [cond_true] at h
        cases hk : !v.isUnk && allCellOk v.cells && bldOk t v.cells.length with
        | false => rw [hk] at h; cases h
        | true =>
          rw [hk] at h
          cases h
          simp only [Bool.and_eq_true, Bool.not_eq_true'] at hk
          obtain ⟨γ1, d, r1, _⟩ := valueV_ok E.A 0 hi hv
          obtain ⟨s1, s2⟩ := spread_cells (fun j => ⟨.cell st2.O.length j, []⟩) r1 hk.1.1 hk.1.2
          have f := Frz.spread γ1 w 0 (fun j => (⟨.cell st2.O.length j, []⟩ : Loc))
          have hI := lim_inv d.inv f
          obtain ⟨n1, n2⟩ := new_obj hI (Pushed.alloc w (.cells (a.eval x).cells t)) s1 hk.2 s2
          refine ⟨.pointer (some ⟨w.heap.size, 0, none⟩), _, _, ?_, n1, (d.ext.trans (f.ext (st' := st2) rfl)).trans n2, .free ?_ (by simp) (by simp)⟩
          · simp only [execOp, ho, Instr.box, Sem.run_bind, newVar, newRow, run_newObj, Result.andThen_ok, Sem.run_pure]
            rfl
          · simp only [R]
            exact ⟨w.heap.size, by simp [Gh.reg], rfl⟩
end
end Go.Va
set_option linter.unusedVariables false
namespace Go.Va
/-- cells hold elements, from off on -/
def El (cls : Nat → Cls) (xs : List AV) (z : Nat) (cs : Array Value) (off : Nat) : Prop :=
  ∀ j x, xs[j]? = some x → ∃ vs, D cls x vs ∧ vs.length = z ∧ ∀ i v, vs[i]? = some v → cs[off + j * z + i]? = some v
theorem El.dn {cls : Nat → Cls} {z : Nat} {cs : Array Value} {el : TypeId} {fz : Nat × Nat} : ∀ (xs : List AV) (off : Nat), El cls xs z cs off → Dn cls xs z (.cells cs el fz) off
  | [], off, _ => by simp [Dn]
  | x :: xs, off, h => by
    simp only [Dn]
    obtain ⟨vs, h1, h2, h3⟩ := h 0 x (by simp)
    refine ⟨vs, h1, h2, ⟨cs, el, fz, rfl, fun j v e => by simpa using h3 j v e⟩, El.dn xs (off + z) (fun j y hy => ?_)⟩
    obtain ⟨us, k1, k2, k3⟩ := h (j + 1) y (by simpa using hy)
    refine ⟨us, k1, k2, fun i v e => ?_⟩
    have := k3 i v e
    rwa [show off + z + j * z + i = off + (j + 1) * z + i by rw [Nat.add_mul]; omega]
theorem Dn.el {cls : Nat → Cls} {xs : List AV} {z : Nat} {cs : Array Value} {el : TypeId} {fz : Nat × Nat} {off : Nat} (h : Dn cls xs z (.cells cs el fz) off) : El cls xs z cs off := by
  intro j x hx
  obtain ⟨vs, h1, h2, c, e, f, h3, h4⟩ := Dn_get xs h j x hx
  cases h3
  exact ⟨vs, h1, h2, h4⟩
theorem El.frame {cls cls' : Nat → Cls} {xs : List AV} {z : Nat} {cs : Array Value} {off : Nat} (h : El cls xs z cs off) (hk : ∀ b o, cls b = .imm o → cls' b = .imm o) : El cls' xs z cs off := by
  intro j x hx
  obtain ⟨vs, h1, h2, h3⟩ := h j x hx
  exact ⟨vs, D_frame hk x vs h1, h2, h3⟩

/-- a value on its way comes to be data: what was owned is frozen -/
theorem data1_ok {γ : Gh} {w : World} {l : Loc} {x y : AV} {v : Value} (hx : x.data1 = some y) (h : R γ w l x v) : ∃ γ', Frz γ γ' w l ∧ D γ'.cls y [v] ∧ y.flat = true ∧ y.cells = [y] ∧ one v := by
  unfold AV.data1 at hx
  split at hx
  · cases hx
    simp only [R] at h
    obtain ⟨rfl, h1⟩ := h
    exact ⟨γ, .refl .., by simp [D, h1], rfl, rfl, h1⟩
  · cases hx
    simp only [R, V] at h
    refine ⟨γ, .refl .., h, rfl, rfl, ?_⟩
    simp only [D] at h
    obtain ⟨ad, cap, e, _⟩ := h
    injection e with e
    rw [e]; trivial
  · cases hx
    obtain ⟨γ', f, hv⟩ := frz_sl h
    have hv := hv l
    simp only [R, V] at hv
    refine ⟨γ', f, hv, rfl, rfl, ?_⟩
    simp only [D] at hv
    obtain ⟨ad, cap, e, _⟩ := hv
    injection e with e
    rw [e]; trivial
  · cases hx
theorem dataL_ok {w : World} {l : Loc} : ∀ (xs ys : List AV) {γ : Gh} (n : Nat) (vs : List Value), dataL xs = some ys → Rl γ w l n xs vs → ∃ γ', Frz γ γ' w l ∧ Dl γ'.cls ys vs ∧ ys.length = vs.length
  | [], ys, γ, n, vs, h, hr => by simp only [dataL] at h; cases h; simp only [Rl] at hr; subst hr; exact ⟨γ, .refl .., by simp [Dl], rfl⟩
  | x :: xs, ys, γ, n, vs, h, hr => by
    simp only [dataL] at h
    cases hx : x.data1 with
    | none => rw [hx] at h; cases h
    | some y =>
      cases hu : dataL xs with
      | none => rw [hx, hu] at h; cases h
      | some zs =>
        rw [hx, hu] at h; cases h
        simp only [Rl] at hr
        obtain ⟨v, vs', rfl, h1, h2⟩ := hr
        obtain ⟨γ1, f1, r1, r2, _⟩ := data1_ok hx h1
        have hrest : Rl γ1 w l (n + 1) xs vs' := Rl_keepEach xs (fun m hm => f1.keeps (sub_off (by omega))) h2
        obtain ⟨γ2, f2, d2, e2⟩ := dataL_ok xs zs (n + 1) vs' hu hrest
        refine ⟨γ2, (Frz.wider f1).trans f2, ?_, by simp [e2]⟩
        simp only [Dl]
        exact ⟨v, vs', rfl, r2, D_frame f2.keepsF.imm y [v] r1, d2⟩
theorem data_ok {γ : Gh} {w : World} {l : Loc} {x y : AV} {v : Value} (hx : x.data = some y) (h : R γ w l x v) : ∃ γ', Frz γ γ' w l ∧ D γ'.cls y v.cells.toList ∧ y.cells.length = v.cells.size := by
  have single : x.data1 = some y → ∃ γ', Frz γ γ' w l ∧ D γ'.cls y v.cells.toList ∧ y.cells.length = v.cells.size := by
    intro hd
    obtain ⟨γ', f, d, _, e, ho⟩ := data1_ok hd h
    have hv : v.cells = #[v] := by cases v <;> first | rfl | cases ho
    exact ⟨γ', f, by rw [hv]; exact d, by rw [e, hv]; rfl⟩
  cases x with
  | agg xs =>
    simp only [AV.data] at hx
    cases hd : dataL xs with
    | none => rw [hd] at hx; cases hx
    | some ys =>
      rw [hd] at hx
      cases hx
      simp only [R] at h
      obtain ⟨cs, rfl, _, hl⟩ := h
      obtain ⟨γ', f, d, e⟩ := dataL_ok xs ys 0 _ hd hl
      exact ⟨γ', f, by simpa only [D, Value.cells] using d, by simpa [AV.cells, Value.cells] using e⟩
  | _ => exact single (by simpa only [AV.data] using hx)
theorem D_len {cls : Nat → Cls} {y : AV} {vs : List Value} (h : D cls y vs) : vs.length = y.cells.length := by
  have : ∀ (xs : List AV) (vs : List Value), Dl cls xs vs → vs.length = xs.length := by
    intro xs
    induction xs with
    | nil => intro vs h; simp only [Dl] at h; rw [h]; rfl
    | cons x xs ih => intro vs h; simp only [Dl] at h; obtain ⟨v, vs', rfl, _, _, h2⟩ := h; simp [ih vs' h2]
  exact this _ _ (D_cells h)
/-- one element is put in its place -/
theorem El.set {cls : Nat → Cls} {xs : List AV} {z k : Nat} {cs : Array Value} {y : AV} {vs : Array Value} (h : El cls xs z cs 0) (hs : cs.size = xs.length * z) (hk : k < xs.length) (hd : D cls y vs.toList) (hz : vs.size = z) :
    El cls (xs.set k y) z (vs.zipIdx.foldl (fun cs (p : Value × Nat) => cs.setIfInBounds (k * z + p.2) p.1) cs) 0 := by
  have hb : k * z + vs.toList.length ≤ cs.size := by
    rw [hs]
    have : (k + 1) * z ≤ xs.length * z := Nat.mul_le_mul_right _ (by omega)
    rw [Nat.add_mul] at this
    simp [hz]; omega
  have key : (vs.zipIdx.foldl (fun cs (p : Value × Nat) => cs.setIfInBounds (k * z + p.2) p.1) cs) = ((vs.toList.zipIdx 0).foldl (fun cs (p : Value × Nat) => cs.setIfInBounds (k * z + p.2) p.1) cs) := by
    rw [← Array.foldl_toList]; simp
  rw [key]
  intro j x hx
  rw [List.getElem?_set] at hx
  by_cases e : k = j
  · subst e
    rw [if_pos rfl, if_pos hk] at hx
    cases hx
    refine ⟨vs.toList, hd, by simpa using hz, fun i v hv => ?_⟩
    have hi : i < vs.toList.length := by
      by_cases q : i < vs.toList.length
      · exact q
      · rw [List.getElem?_eq_none (by omega)] at hv; cases hv
    rw [foldl_zip _ _ 0 _ (by simpa using hb), if_pos (by omega)]
    rwa [show 0 + k * z + i - (k * z + 0) = i by omega]
  · rw [if_neg e] at hx
    obtain ⟨us, h1, h2, h3⟩ := h j x hx
    refine ⟨us, h1, h2, fun i v hv => ?_⟩
    have hi : i < z := by
      rw [← h2]
      by_cases q : i < us.length
      · exact q
      · rw [List.getElem?_eq_none (by omega)] at hv; cases hv
    rw [foldl_zip _ _ 0 _ (by simpa using hb), if_neg]
    · exact h3 i v hv
    · simp only [Array.length_toList, hz, Nat.add_zero, Nat.zero_add]
      rintro ⟨q1, q2⟩
      rcases Nat.lt_or_gt_of_ne e with q | q
      · have : (k + 1) * z ≤ j * z := Nat.mul_le_mul_right _ (by omega)
        rw [Nat.add_mul] at this
        omega
      · have : (j + 1) * z ≤ k * z := Nat.mul_le_mul_right _ (by omega)
        rw [Nat.add_mul] at this
        omega
section
variable {c : Cx} {γ : Gh} {st : St} {a : Act} {w : World} {o : Oper} {env : Env}
theorem setParts_ok {z : Nat} : ∀ (ps : List (Nat × AV)) (vs : List (Nat × Value)) {γ : Gh} (k : Nat) (xs xs' : List AV) (cs : Array Value), Inv c γ st a w → ps.length = vs.length →
    (∀ j n y, ps[j]? = some (n, y) → ∃ v, vs[j]? = some (n, v) ∧ R γ w (lim (k + j)) y v) → El γ.cls xs z cs 0 → cs.size = xs.length * z → setParts z xs ps = some xs' →
    ∃ γ' cs', Inv c γ' st a w ∧ Ext γ st w γ' st w ∧ El γ'.cls xs' z cs' 0 ∧ cs'.size = xs'.length * z ∧ xs'.length = xs.length ∧ Instr.fill (fun i => some (i * z, z)) cs vs = some cs'
  | [], vs, γ, k, xs, xs', cs, hi, hl, _, hE, hs, h => by
    simp only [setParts] at h
    cases h
    have : vs = [] := List.eq_nil_of_length_eq_zero (by simpa using hl.symm)
    subst this
    exact ⟨γ, cs, hi, .refl .., hE, hs, rfl, rfl⟩
  | (n, y) :: ps, [], γ, k, xs, xs', cs, hi, hl, _, _, _, _ => by simp at hl
  | (n, y) :: ps, (n', v) :: vs, γ, k, xs, xs', cs, hi, hl, hv, hE, hs, h => by
    obtain ⟨v', e1, e2⟩ := hv 0 n y (by simp)
    simp at e1
    obtain ⟨rfl, rfl⟩ := e1
    rw [Nat.add_zero] at e2
    simp only [setParts] at h
    cases hd : y.data with
    | none => rw [hd] at h; cases h
    | some y' =>
      rw [hd] at h
      simp only at h
      cases hb : Nat.blt n' xs.length && Nat.beq y'.cells.length z && !y.isUnk with
      | false => rw [hb] at h; cases h
      | true =>
        rw [hb] at h
        simp only [Bool.and_eq_true] at hb
        have b1 := blt_t hb.1.1
        have b2 := beq_t hb.1.2
        obtain ⟨γ1, f, d, hsz⟩ := data_ok hd e2
        have hvz : v.cells.size = z := by rw [← hsz, b2]
        have hi1 := lim_inv hi f
        have hE1 := El.set (hE.frame f.keepsF.imm) hs b1 d hvz
        obtain ⟨γ', cs', i1, i2, i3, i4, i5, i6⟩ := setParts_ok ps vs (k + 1) _ xs' _ hi1 (by simpa using hl) (fun j m y' e => by
          obtain ⟨v', e1, e2⟩ := hv (j + 1) m y' (by simpa using e)
          refine ⟨v', by simpa using e1, ?_⟩
          rw [show k + (j + 1) = k + 1 + j by omega] at e2
          exact R_keep _ (f.keeps (by intro q r e; injection e with e _; injection e with e; omega)) _ e2) hE1 (by
            rw [← Array.foldl_toList, Array.toList_zipIdx, foldl_zip_size]; simpa using hs) (by rw [lset_eq] at h; exact h)
        refine ⟨γ', cs', i1, (f.ext rfl).trans i2, i3, i4, by simpa using i5, ?_⟩
        simp only [Instr.fill]
        rw [if_neg]
        · exact i6
        · have : (n' + 1) * z ≤ xs.length * z := Nat.mul_le_mul_right _ (by omega)
          rw [Nat.add_mul] at this
          simp [hvz]
          omega
end
end Go.Va

/- The verified abstract interpreter, a part of it: no statement of its own. -/
import Derived.Test.YtmklimlepgiffabVa24
set_option linter.unusedVariables false
set_option linter.unusedSimpArgs false
set_option linter.unusedVariables false
namespace Go.Va
theorem El.cut {cls : Nat → Cls} {xs ys : List AV} {z lo : Nat} {A B : List Value} (h : El cls xs z A.toArray 0) (k : El cls ys z B.toArray 0) (hB : B.length = ys.length * z) (hl : lo + ys.length ≤ xs.length) (hA : xs.length * z ≤ A.length) :
    El cls (xs.take lo ++ ys ++ xs.drop (lo + ys.length)) z (A.take (lo * z) ++ B ++ A.drop (lo * z + B.length)).toArray 0 := by
  have e1 : (lo + ys.length) * z ≤ xs.length * z := Nat.mul_le_mul_right _ hl
  rw [Nat.add_mul] at e1
  have hg := fun m => row_get (cs := A) (us := B) (off := lo * z) (by omega) m
  have hx : ∀ j x, (xs.take lo ++ ys ++ xs.drop (lo + ys.length))[j]? = some x → (lo ≤ j ∧ j < lo + ys.length ∧ ys[j - lo]? = some x) ∨ ((j < lo ∨ lo + ys.length ≤ j) ∧ xs[j]? = some x) := by
    intro j x e
    simp only [List.append_assoc] at e
    by_cases h1 : j < lo
    · rw [List.getElem?_append_left (by simp; omega), List.getElem?_take, if_pos h1] at e
      exact .inr ⟨.inl h1, e⟩
    · rw [List.getElem?_append_right (by simp; omega)] at e
      simp only [List.length_take] at e
      rw [show min lo xs.length = lo by omega] at e
      by_cases h2 : j < lo + ys.length
      · rw [List.getElem?_append_left (by omega)] at e
        exact .inl ⟨by omega, h2, e⟩
      · rw [List.getElem?_append_right (by omega), List.getElem?_drop] at e
        exact .inr ⟨.inr (by omega), by rwa [show lo + ys.length + (j - lo - ys.length) = j by omega] at e⟩
  intro j x e
  rcases hx j x e with ⟨h1, h2, h3⟩ | ⟨h1, h3⟩
  · obtain ⟨vs, q1, q2, q3⟩ := k _ x h3
    refine ⟨vs, q1, q2, fun i v hv => ?_⟩
    have hi : i < z := by
      rw [← q2]
      by_cases q : i < vs.length
      · exact q
      · rw [List.getElem?_eq_none (by omega)] at hv; cases hv
    have := q3 i v hv
    have b1 : (j - lo) * z + z ≤ ys.length * z := by
      have : (j - lo + 1) * z ≤ ys.length * z := Nat.mul_le_mul_right _ (by omega)
      rwa [Nat.add_mul, Nat.one_mul] at this
    have b2 : j * z = lo * z + (j - lo) * z := by rw [← Nat.add_mul]; congr 1; omega
    simp only [List.getElem?_toArray, Nat.zero_add] at this ⊢
    rw [hg, if_pos (by omega), show j * z + i - lo * z = (j - lo) * z + i by omega]
    exact this
  · obtain ⟨vs, q1, q2, q3⟩ := h j x h3
    refine ⟨vs, q1, q2, fun i v hv => ?_⟩
    have hi : i < z := by
      rw [← q2]
      by_cases q : i < vs.length
      · exact q
      · rw [List.getElem?_eq_none (by omega)] at hv; cases hv
    have := q3 i v hv
    simp only [List.getElem?_toArray, Nat.zero_add] at this ⊢
    rw [hg, if_neg]
    · exact this
    · rintro ⟨p1, p2⟩
      rcases h1 with h1 | h1
      · have : (j + 1) * z ≤ lo * z := Nat.mul_le_mul_right _ (by omega)
        rw [Nat.add_mul] at this
        omega
      · have : (lo + ys.length) * z ≤ j * z := Nat.mul_le_mul_right _ (by omega)
        rw [Nat.add_mul] at this
        omega
section
variable {c : Cx} {γ : Gh} {st : St} {a : Act} {w : World} {o : Oper} {env : Env} {i : Nat}
theorem val_clear (E : EnvOk c.P env) (hi : Inv c γ st a w) {cc : Call} {x : Operand} {y : AV} {st1 : St} (ho : o.op = .call cc) (hc : cc.callee = .builtin .clear) (hx : cc.args.toList = [x])
    (h : builtinV env st .clear [x] cc.argTypes.toList = some (y, st1)) : Val c γ st st1 a w o y := by
  unfold builtinV at h
  simp only at h
  split at h
  · rename_i z hm lo len t hal hts
    split at h
    · rename_i z2 xs te hg hte
      obtain ⟨e, hu, T⟩ := E.elem hte
      split at h
      · rename_i d hd
        rw [E.A] at h
        cases hk : realAr.nle (lo + len) xs.length && Nat.beq d.cells.length z2 with
        | false => rw [hk] at h; cases h
        | true =>
          rw [hk] at h
          simp only [cond_true, Option.some.injEq, Prod.mk.injEq] at h
          obtain ⟨rfl, rfl⟩ := h
          simp only [Bool.and_eq_true] at hk
          have k1 : lo + len ≤ xs.length := by simpa [realAr] using hk.1
          have k2 := beq_t hk.2
          obtain ⟨u, hu', hR⟩ := home_rel (h := hm) hi (by rw [hg]; simp)
          rw [hg] at hR
          obtain ⟨_, al0, al⟩ := (flow_opd hi x 0 (by rw [hal]; rfl)).al _ _ _ _ hal
          obtain ⟨e0, e1, ha, cap, a', e2, e3, e4, e5⟩ := al _ _ _ hg u hu'
          obtain ⟨cs0, hrun⟩ := call_builtin (a := a) (w := w) (c := c) ho hc
          have harg := args_one hx a.eval
          have hts' : cc.argTypes = #[t] := by apply Array.ext'; simpa using hts
          obtain ⟨inf, hi1, hsz, hby, _, _, zv, hz, hzc⟩ := T.info
          obtain ⟨zd, zsz⟩ := zero_data γ.cls hzc hd
          by_cases h0 : len = 0
          · subst h0
            have hsame : (AV.sl z2 (xs.take lo ++ List.replicate 0 d ++ xs.drop (lo + 0)) .full) = .sl z2 xs .full := by simp
            rw [hsame]
            obtain ⟨w1, _, w3⟩ := turn_home (h := hm) (x := .sl z2 xs .full) hi (by rw [hg]; simp) (Frz.refl ..) (fun v e => by rw [hu'] at e; cases e; exact hR) (fun z1 xs1 p1 e => by cases e; exact ⟨_, hg⟩) (fun _ => rfl) (by simp) (by simp)
            refine ⟨.tuple #[], w, γ, ?_, w1, w3, .free (by simp only [R]) (by simp) (by simp)⟩
            rw [hrun, harg, hts', e3]
            cases a' with
            | none => simp [builtin, Builtin.clear_, run_underlying hu]
            | some a' => simp [builtin, Builtin.clear_, run_underlying hu]
          · obtain ⟨b, off, k3, k4⟩ := e5 (by omega)
            simp only [R] at hR
            rcases hR with ⟨hnil, _⟩ | ⟨b', cap', cs, el, e6, hb, hh, hs, hc', hn⟩
            · rw [hnil] at k1; simp at k1; omega
            · rw [e2, k3] at e6
              injection e6 with e6 _ e7
              injection e6 with e6
              injection e6 with e6 e8
              subst e6 e7 e8
              have hE := Dn.el hn
              have hcells : Builtin.zeroCells zv.cells len = madeCells zv.cells (len * z2) := by
                unfold Builtin.zeroCells madeCells
                rw [← zsz, k2]
              have hzs : zv.cells.size = z2 := by rw [← zsz, k2]
              have hrep := El.rep (n := len) zd hzs
              have hlen : (madeCells zv.cells (len * z2)).toList.length = (List.replicate len d).length * z2 := by
                rw [Array.length_toList, ← hcells, size_zeroCells, hzs, List.length_replicate]
              have hlt : lo * z2 + len * z2 ≤ cs.size := by
                rw [hs, ← Nat.add_mul]
                exact Nat.mul_le_mul_right _ (by omega)
              have hst := run_storeCells_at c.P b (lo * z2) el (madeCells zv.cells (len * z2)).toList 0 cs w hh (by rw [hlen, List.length_replicate]; omega) (by
                intro u hu
                have : ∃ j : Nat, (madeCells zv.cells (len * z2))[j]? = some u := by
                  obtain ⟨j, hj⟩ := List.getElem?_of_mem hu
                  exact ⟨j, by simpa using hj⟩
                obtain ⟨j, hj⟩ := this
                have hjl : j < len * z2 := by
                  by_cases q : j < (madeCells zv.cells (len * z2)).size
                  · rw [← hcells, size_zeroCells, hzs] at q; exact q
                  · rw [Array.getElem?_eq_none (by omega)] at hj; cases hj
                have hz0 : 0 < z2 := by
                  rcases Nat.eq_zero_or_pos z2 with q | q
                  · subst q; simp at hjl
                  · exact q
                have e1 : j / z2 < len := Nat.div_lt_of_lt_mul (by rw [Nat.mul_comm]; exact hjl)
                have e2 : j % z2 < zv.cells.size := by rw [hzs]; exact Nat.mod_lt _ hz0
                have := madeCells_get (z := zv.cells) (n := len) (i := j / z2) (j := j % z2) (v := zv.cells[j % z2]) (by omega) e1 (Array.getElem?_eq_getElem e2)
                rw [hzs, show j / z2 * z2 + j % z2 = j by rw [Nat.mul_comm]; exact Nat.div_add_mod j z2] at this
                rw [this] at hj
                cases hj
                exact one_cell' (D_ones zd _ (by simp)))
              simp only [Nat.add_zero] at hst
              have hE' := El.cut (xs := xs) (ys := List.replicate len d) (z := z2) (A := cs.toList) (lo := lo) (by simpa using hE) (by simpa using hrep) hlen (by simpa using k1) (by simp only [Array.length_toList]; rw [hs]; exact Nat.mul_le_mul_right _ hc')
              have key : R γ (w.setRow b (cs.toList.take (lo * z2) ++ (madeCells zv.cells (len * z2)).toList ++ cs.toList.drop (lo * z2 + (madeCells zv.cells (len * z2)).toList.length)).toArray) (homeLoc hm) (.sl z2 (xs.take lo ++ List.replicate len d ++ xs.drop (lo + len)) .full) u := by
                simp only [R]
                right
                have hl : (xs.take lo ++ List.replicate len d ++ xs.drop (lo + len)).length = xs.length := by simp; omega
                refine ⟨b, cap, _, el, by rw [hl, e2, k3], hb, setRow_heap w b cs _ el (0, 0) hh, ?_, by rw [hl]; exact hc', El.dn _ _ (by simpa using hE')⟩
                rw [← hs]
                simp only [List.size_toArray, List.length_append, List.length_take, List.length_drop, Array.length_toList] at hlen ⊢
                rw [List.length_replicate] at hlen
                omega
              obtain ⟨w1, w2⟩ := write_home hi hg hb hu' key (by simp; omega)
              refine ⟨.tuple #[], _, γ, ?_, w1, w2, .free (by simp only [R]) (by simp) (by simp)⟩
              rw [hrun, harg, hts', e3, k4, Nat.zero_add]
              obtain ⟨n', hn'⟩ : ∃ n', len = n' + 1 := ⟨len - 1, by omega⟩
              subst hn'
              subst e0
              simp [builtin, Builtin.clear_, run_underlying hu, zeroValue, typeInfo, hi1, hz, hcells, hst]
      · cases h
    · cases h
  · cases h
end
end Go.Va
set_option linter.unusedVariables false
namespace Go.Va
section
variable {c : Cx} {γ : Gh} {st : St} {a : Act} {w : World} {o : Oper} {env : Env} {i : Nat}
theorem sameCell_t {h : Home} {i off : Nat} (e : sameCell h i off = true) : h = .cell i off := by
  cases h with
  | slot => cases e
  | cell b c =>
    simp only [sameCell, Bool.and_eq_true] at e
    rw [beq_t e.1, beq_t e.2]
theorem storeV_ok (E : EnvOk c.P env) (hi : Inv c γ st a w) {t : TypeId} {ty : Ty} (T : TyOk c.P t ty) {x y : Operand} {st1 : St} (h : storeV env.A st ty x y = some st1) :
    ∃ γ' w', (Instr.storeAt t (a.eval x) (a.eval y)).run c.P w = .ok () w' ∧ Inv c γ' st1 a w' ∧ Ext γ st w γ' st1 w' := by
  unfold storeV at h
  split at h
  · rename_i j off z hm lo len hx hy
    cases hk : sameCell hm j off && Nat.beq ty.size 1 with
    | false => rw [hk] at h; exact storeG_ok E hi T h
    | true =>
      rw [hk] at h
      simp only [Bool.and_eq_true] at hk
      have := sameCell_t hk.1
      subst this
      have hr := opd_ok (l := lim 0) hi x (by rw [hx]; rfl)
      rw [hx] at hr
      simp only [R] at hr
      obtain ⟨b, hb, ex⟩ := hr
      rw [ex]
      exact storeS_ok hi T (beq_t hk.2) hy hb h E.A
  · exact storeG_ok E hi T h
theorem val_lift (hi : Inv c γ st a w) {y : AV} {v : Value} (h : (execOp a.eval o).run c.P w = .ok (.value v) w ∧ y = .s v ∧ one v) : Val c γ st st a w o y := by
  obtain ⟨h1, rfl, h2⟩ := h
  exact val_same hi h1 (flow_s h2)
theorem val_step (E : EnvOk c.P env) (hi : Inv c γ st a w) {y : AV} {st1 : St} (hn : ∀ x, o.op ≠ .assign x) (h : stepV env st o.op = some (y, st1)) : Val c γ st st1 a w o y := by
  cases ho : o.op with
  | move x => rw [ho] at h; exact val_move hi (.inl ho) h
  | assign x => exact (hn x ho).elim
  | pick => exact val_pick hi ho h
  | alloc => exact val_alloc E hi ho h
  | box => exact val_box E hi ho h
  | build => exact val_build E hi ho h
  | buildSlice => exact val_buildSlice E hi ho h
  | load => exact val_load E hi ho h
  | nilCheck => exact val_nilCheck hi ho h
  | binOp op t x z u =>
    rw [ho] at h
    simp only [stepV, withSt] at h
    split at h
    · rename_i r hr
      cases h
      obtain ⟨v, h1, h2, h3⟩ := val_bin E hi ho hr
      exact val_lift hi ⟨h1, h2, h3⟩
    · cases h
  | unOp => exact val_un hi E ho h
  | convert => exact val_convert E hi ho h
  | makeInterface => exact val_iface hi E ho h
  | makeFunc => exact val_makeFunc hi ho h
  | makeSlice => exact val_makeSlice E hi ho h
  | slice => exact val_slice E hi ho h
  | fieldAddr => exact val_fieldAddr E hi ho h
  | indexAddr => exact val_indexAddr E hi ho h
  | index => exact val_index E hi ho h
  | extract => exact val_extract hi ho h
  | call cc =>
    rw [ho] at h
    simp only [stepV] at h
    split at h
    · rename_i b hc
      have h0 := h
      unfold builtinV at h0
      split at h0
      · rename_i x hx; rw [hx] at h; exact val_len E hi ho hc hx h
      · rename_i x z hx; rw [hx] at h; exact val_append E hi ho hc hx h
      · rename_i x z hx; rw [hx] at h; exact val_min E hi ho hc hx h
      · rename_i x z hx; rw [hx] at h; exact val_max E hi ho hc hx h
      · rename_i x hx; rw [hx] at h; exact val_clear E hi ho hc hx h
      · cases h0
    · cases h
  | _ => rw [ho] at h; simp only [stepV] at h; cases h
theorem Val.done {y : AV} {st1 : St} (h : Val c γ st st1 a w o y) : ∃ v w1 γ1, (execOp a.eval o).run c.P w = .ok (.value v) w1 ∧ Inv c γ1 (dput st1 o.dst y) (a.put o.dst v) w1 ∧ Ext γ st w γ1 (dput st1 o.dst y) w1 := by
  obtain ⟨v, w1, γ1, h1, h2, h3, h4⟩ := h
  obtain ⟨γ2, k1, k2⟩ := put_flow o.dst h2 h4
  exact ⟨v, w1, γ2, h1, k1, h3.trans k2⟩
theorem isNilConst_t {x : Operand} (h : isNilConst x = true) : x = .const (.slice none 0 0) := by
  unfold isNilConst at h
  split at h
  · rfl
  · cases h
theorem step_ok (E : EnvOk c.P env) (hi : Inv c γ st a w) {st1 : St} (h : stepOp env st o = some st1) :
    ∃ n v w1 γ1, (execOp a.eval o).run c.P w = .ok n w1 ∧ (n = .value v ∨ n = .skip ∧ v = undef) ∧ Inv c γ1 st1 (a.put o.dst v) w1 ∧ Ext γ st w γ1 st1 w1 := by
  unfold stepOp at h
  split at h
  · -- assign
    rename_i x ho
    have hrun : (execOp a.eval o).run c.P w = .ok (.value (a.eval x)) w := by simp [execOp, ho]
    cases hd : o.dst with
    | none => rw [hd] at h; cases h
    | some d =>
      rw [hd] at h
      simp only at h
      have fin : ∀ {y : AV} {st2 : St} {γ2 : Gh}, Inv c γ2 st2 a w → Ext γ st w γ2 st2 w → Flow γ2 st2 a w 0 y (a.eval x) → st1 = dput st2 (some d) y →
          ∃ n v w1 γ1, (execOp a.eval o).run c.P w = .ok n w1 ∧ (n = .value v ∨ n = .skip ∧ v = undef) ∧ Inv c γ1 st1 (a.put (some d) v) w1 ∧ Ext γ st w γ1 st1 w1 := by
        intro y st2 γ2 h1 h2 h3 h4
        subst h4
        obtain ⟨γ3, k1, k2⟩ := put_flow (some d) h1 h3
        exact ⟨_, a.eval x, w, γ3, hrun, .inl rfl, k1, h2.trans k2⟩
      split at h
      · rename_i hnil
        have hx := isNilConst_t hnil
        subst hx
        cases he : env.elemOf o.type with
        | none => rw [he] at h; cases h
        | some e =>
          rw [he] at h
          cases h
          refine fin hi (.refl ..) (.free ?_ (by simp) (by simp)) rfl
          simp only [R]
          exact .inl ⟨trivial, rfl⟩
      · unfold assignV at h
        split at h
        · rename_i z t lo len st2 ht
          obtain ⟨γ2, d2, f2⟩ := takeV_ok 0 hi ht
          cases hb : Nat.beq t d with
          | false =>
            rw [hb] at h
            simp only [cond_false, Option.some.injEq] at h
            exact fin d2.inv d2.ext f2 h.symm
          | true =>
            rw [hb] at h
            simp only [cond_true] at h
            have := beq_t hb
            subst this
            split at h
            · rename_i z2 xs hg
              cases hk : Nat.beq lo 0 && env.A.nle len xs.length && Nat.blt t st2.n with
              | false => rw [hk] at h; cases h
              | true =>
                rw [hk] at h
                simp only [cond_true, Option.some.injEq] at h
                simp only [Bool.and_eq_true] at hk
                have k1 := beq_t hk.1.1
                have k2 : len ≤ xs.length := by have := hk.1.2; rw [E.A] at this; simpa [realAr] using this
                have hdn : t < st2.n := blt_t hk.2
                subst k1
                obtain ⟨_, al⟩ := f2.al _ _ _ _ rfl
                obtain ⟨e0, e1, ha, cap, a', e2, e3, e4, e5⟩ := al.2 _ _ _ (show homeGet st2 (.slot t) = _ from hg) _ rfl
                have e4 := e4 rfl
                subst e4
                rw [Nat.sub_zero] at e3
                have hv := d2.inv.fm.val t
                rw [hg, e2] at hv
                have hnew : R γ2 w ⟨.slot t, []⟩ (.sl z2 (xs.take len) .full) (a.eval x) := by
                  simp only [R] at hv ⊢
                  rcases hv with ⟨rfl, e⟩ | ⟨b2, cap2, cs2, el2, q1, q2, q3, q4, q5, q6⟩
                  · left
                    injection e with e8 _ e9
                    subst e8 e9
                    have : len = 0 := by simpa using k2
                    subst this
                    exact ⟨by simp, e3⟩
                  · right
                    injection q1 with q1 _ q7
                    subst q1 q7
                    exact ⟨b2, cap, cs2, el2, by rw [e3]; congr 1; simp; omega, q2, q3, q4, by simp; omega, Dn_take _ _ q6⟩
                have hI := put_any (d := t) d2.inv hdn d2.inv.wd d2.inv.hp (x := .sl z2 (xs.take len) .full) (v := a.eval x) rfl (fun _ _ h => h) hnew (fun _ _ _ => rfl) (fun _ _ _ _ e => by cases e) (fun _ _ _ e => by cases e)
                have hfs : fset st2.fr t (.sl z2 (xs.take len) .full) = (t, .sl z2 (xs.take len) .full) :: killSlot t st2.fr := by
                  unfold fset
                  rw [hg]
                  rfl
                rw [hfs] at hI
                subst h
                exact ⟨_, a.eval x, w, γ2, hrun, .inl rfl, hI, d2.ext.trans (.fr _ _ _ rfl)⟩
            · cases h
        · rename_i r hne
          cases ht : takeV st x with
          | none => rw [ht] at h; cases h
          | some r =>
            obtain ⟨y, st2⟩ := r
            rw [ht] at h
            simp only [dputO, Option.some.injEq] at h
            obtain ⟨γ2, d2, f2⟩ := takeV_ok 0 hi ht
            exact fin d2.inv d2.ext f2 h.symm
  · -- store
    rename_i t x y ho
    split at h
    · rename_i ty hty
      split at h
      · rename_i st2 hs
        cases h
        obtain ⟨γ2, w2, k1, k2, k3⟩ := storeV_ok E hi (E.tyOk hty) hs
        obtain ⟨γ3, m1, m2⟩ := put_flow (x := .unk) (v := undef) (k := 0) o.dst k2 (.free (by simp only [R]) (by simp) (by simp))
        refine ⟨.skip, undef, w2, γ3, ?_, .inr ⟨rfl, rfl⟩, m1, k3.trans m2⟩
        simp only [execOp, ho, Sem.run_bind, k1, Result.andThen_ok, Sem.run_pure]
      · cases h
    · cases h
  · -- the others
    rename_i hna _
    unfold dputO at h
    split at h
    · rename_i y st2 hv
      cases h
      obtain ⟨v, w1, γ1, h1, h2, h3⟩ := (val_step E hi (fun x e => hna x e) hv).done
      exact ⟨_, v, w1, γ1, h1, .inl rfl, h2, h3⟩
    · cases h
end
end Go.Va

/- The verified abstract interpreter, a part of it: no statement of its own. -/
import Derived.Test.YtmklimlepgiffabVa19
set_option linter.unusedVariables false
set_option linter.unusedSimpArgs false
set_option linter.unusedVariables false
namespace Go.Va
section
variable {c : Cx} {a : Act} {w : World} {o : Oper} {env : Env} {i : Nat}

theorem plain1_facts {x y : AV} (h : x.plain1 = some y) : (∀ z xs p, y = .sl z xs p → ∃ p', x = .sl z xs p') ∧ (x.owner = true → y.owner = true) ∧ y.free = true ∧ y.isAl = false := by
  unfold AV.plain1 at h
  split at h <;> cases h
  · exact ⟨by simp, by simp [AV.owner], rfl, rfl⟩
  · exact ⟨fun z xs p e => ⟨_, e⟩, by simp [AV.owner], rfl, rfl⟩
  · exact ⟨fun z xs p e => by cases e; exact ⟨_, rfl⟩, by simp [AV.owner], rfl, rfl⟩
  · exact ⟨by simp, by simp [AV.owner], rfl, rfl⟩
  · exact ⟨by simp, by simp [AV.owner], rfl, rfl⟩
  · exact ⟨by simp, by simp [AV.owner], rfl, rfl⟩
theorem setObj_self {st : St} {i : Nat} {o : Obj} (h : objAt st i = some o) : setObj st i o = st := by
  simp only [setObj, lset_eq]
  simp only [objAt, lget_eq] at h
  have : st.O.set i o = st.O := by
    apply List.ext_getElem?
    intro j
    rw [List.getElem?_set]
    split
    · rename_i e
      subst e
      split
      · exact h.symm
      · rw [List.getElem?_eq_none (by omega)]
    · rfl
  rw [this]
theorem setObj_setObj (st : St) (i : Nat) (o p : Obj) : setObj (setObj st i o) i p = setObj st i p := by
  simp only [setObj, lset_eq, List.set_set]
theorem plain_cells : ∀ (n : Nat) {γ : Gh} {st : St} (off : Nat) (ob : Obj) (ys : List AV), Inv c γ st a w → objAt st i = some ob → off + n ≤ ob.length → plainL (lcut ob off n) = some ys →
    ∃ γ', Did c γ st γ' (setObj st i (splice ob off ys)) a w (fun _ => True) ∧ KeepsF γ γ' ∧ ys.length = n ∧ ∀ j y, ys[j]? = some y → ∃ u, homeVal γ a w (.cell i (off + j)) = some u ∧ one u ∧ ∀ l, R γ' w l y u
  | 0, γ, st, off, ob, ys, hi, ho, hl, h => by
    simp only [lcut, List.take_zero, plainL] at h
    cases h
    have : splice ob off [] = ob := by simp [splice]
    rw [this, setObj_self ho]
    exact ⟨γ, .refl hi, .refl γ, rfl, by simp⟩
  | n + 1, γ, st, off, ob, ys, hi, ho, hl, h => by
    have hlt : off < ob.length := by omega
    have hx : ob[off]? = some ob[off] := by simp [hlt]
    have hcut : lcut ob off (n + 1) = ob[off] :: lcut ob (off + 1) n := by
      simp only [lcut]
      rw [List.drop_eq_getElem_cons hlt, List.take_succ_cons]
    rw [hcut] at h
    simp only [plainL] at h
    cases hp : ob[off].plain1 with
    | none => rw [hp] at h; cases h
    | some y =>
      cases hu : plainL (lcut ob (off + 1) n) with
      | none => rw [hp, hu] at h; cases h
      | some zs =>
        rw [hp, hu] at h
        cases h
        obtain ⟨b, cs, el, v, h1, h2, h3, h4, h5, h6, h7⟩ := cell_val hi ho hx
        obtain ⟨p1, p2, p3, _⟩ := plain1_facts hp
        obtain ⟨γ1, f1, r1⟩ := frz_plain1 hp h7
        have hV : homeVal γ a w (.cell i off) = some v := by simp only [homeVal, h1, Option.bind_some, World.cell?, h3]; simpa using h5
        have hI := turn_cell hi ho hx f1 (x := y) (fun v' e => by rw [hV] at e; cases e; exact r1) p1 p2
        have ho1 : objAt (setObj st i (lset ob off y)) i = some (lset ob off y) := by rw [objAt_setObj ho, if_pos rfl]
        have hcut1 : lcut (lset ob off y) (off + 1) n = lcut ob (off + 1) n := by
          simp only [lcut, lset_eq]
          congr 1
          rw [List.drop_set_of_lt (by omega)]
        obtain ⟨γ2, d2, k2, l2, v2⟩ := plain_cells n (off + 1) (lset ob off y) zs hI ho1 (by rw [lset_eq, List.length_set]; omega) (by rw [hcut1]; exact hu)
        have hst : setObj (setObj st i (lset ob off y)) i (splice (lset ob off y) (off + 1) zs) = setObj st i (splice ob off (y :: zs)) := by
          rw [setObj_setObj]
          congr 1
          apply List.ext_getElem?
          intro m
          rw [splice_get _ _ _ (by rw [lset_eq, List.length_set]; omega), splice_get _ _ _ (by simp only [List.length_cons]; omega)]
          simp only [List.length_cons]
          by_cases q1 : m = off
          · subst q1
            rw [if_neg (by omega), if_pos (by omega), lset_eq, List.getElem?_set]
            simp [hlt]
          · by_cases q2 : off + 1 ≤ m ∧ m < off + 1 + zs.length
            · rw [if_pos q2, if_pos (by omega), show m - off = (m - (off + 1)) + 1 by omega]
              simp
            · rw [if_neg q2, if_neg (by omega), lset_eq, List.getElem?_set, if_neg (by omega)]
        rw [hst] at d2
        have d1 : Did c γ st γ1 (setObj st i (lset ob off y)) a w (fun _ => True) := ⟨hI, f1.ext rfl, fun k _ q x v e => R_keep _ (f1.keeps (by simp)) _ e⟩
        have kf : KeepsF γ γ2 := ⟨fun b o e => k2.imm b o (f1.keepsF.imm b o e), fun b o e => k2.ro b o (f1.keepsF.ro b o e), fun i b e => k2.ob i b (f1.keepsF.ob i b e)⟩
        refine ⟨γ2, d1.trans d2, kf, by simp [l2], fun j y' e => ?_⟩
        cases j with
        | zero =>
          simp at e
          subst e
          exact ⟨v, by simpa using hV, h6, fun l => R_free k2 y v p3 r1⟩
        | succ j =>
          obtain ⟨u, u1, u2, u3⟩ := v2 j y' (by simpa using e)
          refine ⟨u, ?_, u2, u3⟩
          rw [show off + (j + 1) = off + 1 + j by omega]
          simp only [homeVal, f1.ob] at u1 ⊢
          exact u1
end
end Go.Va
set_option linter.unusedVariables false
namespace Go.Va
section
variable {c : Cx} {γ : Gh} {st : St} {a : Act} {w : World} {o : Oper} {env : Env} {i : Nat}

theorem val_load (E : EnvOk c.P env) (hi : Inv c γ st a w) {t : TypeId} {x : Operand} {y : AV} {st1 : St} (ho : o.op = .load t x) (h : stepV env st o.op = some (y, st1)) : Val c γ st st1 a w o y := by
  rw [ho] at h
  simp only [stepV] at h
  cases ht : env.ty t with
  | none => rw [ht] at h; cases h
  | some ty =>
    rw [ht] at h
    simp only at h
    have T := E.tyOk ht
    unfold loadV at h
    split at h
    · rename_i j off hx
      have hr := opd_ok (l := lim 0) hi x (by rw [hx]; rfl)
      rw [hx] at hr
      simp only [R] at hr
      obtain ⟨b, hb, ex⟩ := hr
      unfold loadP at h
      cases hob : objAt st j with
      | none => rw [hob] at h; cases h
      | some ob =>
        rw [hob] at h
        simp only at h
        obtain ⟨b', cs, el, h1, h2, h3, h4, hbe, h5⟩ := hi.hp.obj j ob hob
        rw [hb] at h1
        cases h1
        cases hag : ty.isAgg with
        | true =>
          rw [hag] at h
          simp only [cond_true] at h
          cases hp : plainL (lcut ob off ty.size) with
          | none => rw [hp] at h; cases h
          | some ys =>
            rw [hp] at h
            simp only at h
            cases hle : Nat.ble (off + ty.size) ob.length with
            | false => rw [hle] at h; cases h
            | true =>
              rw [hle] at h
              simp only [cond_true, Option.some.injEq, Prod.mk.injEq] at h
              obtain ⟨rfl, rfl⟩ := h
              have hle := ble_t hle
              obtain ⟨γ', d, kf, hl, hv⟩ := plain_cells ty.size off ob ys hi hob hle hp
              have hval : ∀ m u, homeVal γ a w (.cell j m) = some u → cs[m]? = some u := by
                intro m u e
                simpa only [homeVal, hb, Option.bind_some, cell_of h3] using e
              -- the values
              have hvs : ∃ vs : List Value, vs.length = ty.size ∧ (∀ (m : Nat) (v : Value), vs[m]? = some v → cs[off + m]? = some v) ∧ ∀ (m : Nat) (y : AV), ys[m]? = some y → ∃ u, vs[m]? = some u ∧ one u ∧ ∀ l, R γ' w l y u := by
                refine ⟨(cs.toList.drop off).take ty.size, by simp; omega, fun m v e => ?_, fun m y e => ?_⟩
                · rw [List.getElem?_take] at e
                  split at e
                  · rw [List.getElem?_drop] at e; simpa using e
                  · cases e
                · obtain ⟨u, u1, u2, u3⟩ := hv m y e
                  refine ⟨u, ?_, u2, u3⟩
                  have hm : m < ty.size := by
                    rw [← hl]
                    by_cases q : m < ys.length
                    · exact q
                    · rw [List.getElem?_eq_none (by omega)] at e; cases e
                  rw [List.getElem?_take, if_pos hm, List.getElem?_drop]
                  simpa using hval _ _ u1
              obtain ⟨vs, l1, l2, l3⟩ := hvs
              have hrun := run_load_agg (w := w) (b := b) (off := off) T hag l1 (fun m v e => by rw [cell_of h3]; exact l2 m v e)
              have hones : ∀ u ∈ vs, one u := by
                intro u hu
                obtain ⟨m, hm, e⟩ := List.getElem_of_mem hu
                obtain ⟨u', e1, e2, _⟩ := l3 m ys[m] (by simp [show m < ys.length by omega])
                rw [List.getElem?_eq_getElem hm, e] at e1
                cases e1
                exact e2
              have hR : ∀ l, R γ' w l (.agg ys) (.agg vs.toArray) := by
                intro l
                simp only [R]
                refine ⟨_, rfl, by simpa using hones, ?_⟩
                refine Laid.rl ys vs 0 (by rw [l1, hl]) (fun m y e => ?_)
                obtain ⟨u, e1, _, e3⟩ := l3 m y e
                exact ⟨u, e1, e3 _⟩
              cases hf : anyFull (lcut ob off ty.size) with
              | true =>
                simp only [cond_true]
                exact ⟨_, w, γ', load_run ho ex hrun, d.inv, d.ext, .free (hR _) (by simp) (by simp)⟩
              | false =>
                simp only [cond_false]
                have hsame := plain_same _ _ hp hf
                have hst : setObj st j (splice ob off ys) = st := by
                  have : splice ob off ys = ob := by
                    rw [hsame]
                    apply List.ext_getElem?
                    intro m
                    have hlen : (lcut ob off ty.size).length = ty.size := lcut_len hle
                    rw [splice_get _ _ _ (by rw [hlen]; exact hle), hlen]
                    by_cases q : off ≤ m ∧ m < off + ty.size
                    · rw [if_pos q]
                      simp only [lcut]
                      rw [List.getElem?_take, if_pos (by omega), List.getElem?_drop, show off + (m - off) = m by omega]
                    · rw [if_neg q]
                  rw [this, setObj_self hob]
                rw [hst] at d
                exact ⟨_, w, γ', load_run ho ex hrun, d.inv, d.ext, .free (hR _) (by simp) (by simp)⟩
        | false =>
          rw [hag] at h
          simp only [cond_false] at h
          cases hg : lget ob off with
          | none => rw [hg] at h; cases h
          | some xx =>
            rw [hg] at h
            simp only at h
            rw [lget_eq] at hg
            obtain ⟨v, k1, k2, k3⟩ := h5 off xx hg
            have hrun := load_run (o := o) (c := c) ho ex (run_load_one (w := w) (b := b) (off := off) (v := v) T hag (by rw [cell_of h3]; exact k1))
            have hV : homeVal γ a w (.cell j off) = some v := by simp only [homeVal, hb, Option.bind_some, cell_of h3]; exact k1
            have hG : homeGet st (.cell j off) = xx := by simp only [homeGet, hob, lget_eq, hg]
            cases hc : readCell xx j off with
            | none => rw [hc] at h; cases h
            | some v' =>
              rw [hc] at h
              cases h
              have plain : xx.free = true → xx.isAl = false → y = xx → Val c γ st st a w o y := by
                intro q1 q2 q3
                subst q3
                exact val_same hi hrun (.free (R_free (KeepsF.refl γ) _ _ q1 k3) (isAl_no q2).1 (isAl_no q2).2)
              have alias : ∀ z xs p, xx = .sl z xs p → p ≠ .imm → y = .al z (.cell j off) 0 xs.length → Val c γ st st a w o y := by
                intro z xs p q1 q2 q3
                subst q1 q3
                refine val_same hi hrun ⟨by simp only [R], ?_, by simp⟩
                intro z' h' lo' len' e'
                cases e'
                rw [hG]
                have hsl : ∃ ad cap, v = .slice ad xs.length cap ∧ xs.length ≤ cap ∧ (0 < xs.length → ∃ b off, ad = some ⟨b, off, none⟩) := by
                  by_cases hp : p = .full
                  · subst hp
                    simp only [R] at k3
                    rcases k3 with ⟨rfl, e⟩ | ⟨b, cap, cs, el, e, _, _, _, hl, _⟩
                    · exact ⟨none, 0, e, by simp, by simp⟩
                    · exact ⟨_, cap, e, hl, fun _ => ⟨b, 0, rfl⟩⟩
                  · obtain ⟨ad, cap, e, hl, hh⟩ := sl_cases k3 hp
                    refine ⟨ad, cap, e, hl, fun q => ?_⟩
                    rcases hh with rfl | ⟨b, off, _, e, _⟩
                    · simp at q
                    · exact ⟨b, off, e⟩
                obtain ⟨ad, cap, e, hl, hh⟩ := hsl
                refine ⟨rfl, ⟨ad, cap, e, hl, hh⟩, ?_⟩
                intro z1 xs1 p1 hx1 u hu
                cases hx1
                rw [hV] at hu
                cases hu
                refine ⟨rfl, by omega, ad, cap, ad, e, by rw [e]; simp, fun _ => rfl, fun q => ?_⟩
                obtain ⟨b, off, e⟩ := hh q
                exact ⟨b, off, e, by simp [e]⟩
              unfold readCell at hc
              split at hc <;> cases hc
              · exact plain rfl rfl rfl
              · exact alias _ _ _ rfl (by simp) rfl
              · exact alias _ _ _ rfl (by simp) rfl
              · exact plain rfl rfl rfl
              · exact plain rfl rfl rfl
              · exact plain rfl rfl rfl
              · exact plain rfl rfl rfl
    · rename_i r xs hx
      have hr := opd_ok (l := lim 0) hi x (by rw [hx]; rfl)
      rw [hx] at hr
      simp only [R] at hr
      obtain ⟨b, off, ex⟩ := V_rp_ptr hr
      rw [ex] at hr
      obtain ⟨vs, ob, v1, v2, v3⟩ := V_cells hi hr
      cases hc : ofCells ty xs with
      | none => rw [hc] at h; cases h
      | some v =>
        rw [hc] at h
        cases h
        obtain ⟨u, u1, u2⟩ := cells_val (γ := γ) T v1 v2 v3 hc
        exact val_same hi (load_run ho ex u1) (.free (u2 _).1 (isAl_no (u2 (lim 0)).2).1 (isAl_no (u2 (lim 0)).2).2)
    · rename_i hm j off hx
      obtain ⟨ow, ⟨b, n, ex⟩, ep⟩ := (flow_opd hi x 0 (by rw [hx]; rfl)).ep _ _ _ hx
      split at h
      · rename_i z xs p hg
        cases he : lget xs j with
        | none => rw [he] at h; cases h
        | some e =>
          rw [he] at h
          simp only at h
          rw [lget_eq] at he
          cases hc : ofCells ty (e.cells.drop off) with
          | none => rw [hc] at h; cases h
          | some v =>
            rw [hc] at h
            cases h
            obtain ⟨u, hu, _⟩ := home_rel (h := hm) hi (by rw [hg]; simp)
            obtain ⟨k1, b', o0, cap, k2, k3⟩ := ep z xs p hg u hu
            obtain ⟨vs, ob, w1, w2, w3, w4⟩ := home_elem hi hg he hu k2
            rw [ex] at k3
            injection k3 with k3
            injection k3 with k3
            injection k3 with k4 k5
            obtain ⟨uu, u1, u2⟩ := cells_val (γ := γ) (b := b) (off := n) T (Vl_drop off _ _ (Dl_Vl _ _ (D_cells w2))) (by rw [k5]; exact CellsAt_drop w4) (by rw [k4]; exact w1) hc
            exact val_same hi (load_run ho ex u1) (.free (u2 _).1 (isAl_no (u2 (lim 0)).2).1 (isAl_no (u2 (lim 0)).2).2)
      · cases h
    · cases h
end
end Go.Va

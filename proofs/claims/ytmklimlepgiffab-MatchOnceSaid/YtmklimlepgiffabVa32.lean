/- The verified abstract interpreter, a part of it: no statement of its own. -/
import Derived.Test.YtmklimlepgiffabVa31
set_option linter.unusedVariables false
set_option linter.unusedSimpArgs false
set_option linter.unusedVariables false
namespace Go.Va
section
variable {c : Cx} {γ : Gh} {st : St} {a : Act} {w : World} {o : Oper} {env : Env} {i : Nat}
theorem loadP_agg (hi : Inv c γ st a w) {t : TypeId} {ty : Ty} (T : TyOk c.P t ty) (hag : ty.isAgg = true) {j off b : Nat} (hb : γ.ob j = some b) {y : AV} {st1 : St} (h : loadP st ty j off = some (y, st1)) :
    ∃ γ' v, Did c γ st γ' st1 a w (fun _ => True) ∧ (∀ l, R γ' w l y v) ∧ (Instr.loadAt t (.pointer (some ⟨b, off, none⟩))).run c.P w = .ok v w := by
  unfold loadP at h
  cases hob : objAt st j with
  | none => rw [hob] at h; cases h
  | some ob =>
    rw [hob] at h
    simp only at h
    obtain ⟨b', cs, el, h1, h2, h3, h4, hbe, h5⟩ := hi.hp.obj j ob hob
    rw [hb] at h1
    cases h1
    rw [hag] at h
    simp only [cond_true] at h
    cases hp : plainL (lcut ob off ty.size) with
    | none => rw [hp] at h; cases h
    | some ys =>
      rw [hp] at h
      simp only at h
      cases hle : Nat.ble (off + ty.size) ob.length with
      | false => rw [hle] at h; cases h
      | true =>
        rw [hle] at h
        simp only [cond_true, Option.some.injEq, Prod.mk.injEq] at h
        obtain ⟨rfl, rfl⟩ := h
        have hle := ble_t hle
        obtain ⟨γ', d, kf, hl, hv⟩ := plain_cells ty.size off ob ys hi hob hle hp
        have hval : ∀ m u, homeVal γ a w (.cell j m) = some u → cs[m]? = some u := by
          intro m u e
          simpa only [homeVal, hb, Option.bind_some, cell_of h3] using e
        -- the values
        have hvs : ∃ vs : List Value, vs.length = ty.size ∧ (∀ (m : Nat) (v : Value), vs[m]? = some v → cs[off + m]? = some v) ∧ ∀ (m : Nat) (y : AV), ys[m]? = some y → ∃ u, vs[m]? = some u ∧ one u ∧ ∀ l, R γ' w l y u := by
          refine ⟨(cs.toList.drop off).take ty.size, by simp; omega, fun m v e => ?_, fun m y e => ?_⟩
          · rw [List.getElem?_take] at e
            split at e
            · rw [List.getElem?_drop] at e; simpa using e
            · cases e
          · obtain ⟨u, u1, u2, u3⟩ := hv m y e
            refine ⟨u, ?_, u2, u3⟩
            have hm : m < ty.size := by
              rw [← hl]
              by_cases q : m < ys.length
              · exact q
              · rw [List.getElem?_eq_none (by omega)] at e; cases e
            rw [List.getElem?_take, if_pos hm, List.getElem?_drop]
            simpa using hval _ _ u1
        obtain ⟨vs, l1, l2, l3⟩ := hvs
        have hrun := run_load_agg (w := w) (b := b) (off := off) T hag l1 (fun m v e => by rw [cell_of h3]; exact l2 m v e)
        have hones : ∀ u ∈ vs, one u := by
          intro u hu
          obtain ⟨m, hm, e⟩ := List.getElem_of_mem hu
          obtain ⟨u', e1, e2, _⟩ := l3 m ys[m] (by simp [show m < ys.length by omega])
          rw [List.getElem?_eq_getElem hm, e] at e1
          cases e1
          exact e2
        have hR : ∀ l, R γ' w l (.agg ys) (.agg vs.toArray) := by
          intro l
          simp only [R]
          refine ⟨_, rfl, by simpa using hones, ?_⟩
          refine Laid.rl ys vs 0 (by rw [l1, hl]) (fun m y e => ?_)
          obtain ⟨u, e1, _, e3⟩ := l3 m y e
          exact ⟨u, e1, e3 _⟩
        cases hf : anyFull (lcut ob off ty.size) with
        | true =>
          simp only [cond_true]
          exact ⟨γ', _, d, hR, hrun⟩
        | false =>
          simp only [cond_false]
          have hsame := plain_same _ _ hp hf
          have hst : setObj st j (splice ob off ys) = st := by
            have : splice ob off ys = ob := by
              rw [hsame]
              apply List.ext_getElem?
              intro m
              have hlen : (lcut ob off ty.size).length = ty.size := lcut_len hle
              rw [splice_get _ _ _ (by rw [hlen]; exact hle), hlen]
              by_cases q : off ≤ m ∧ m < off + ty.size
              · rw [if_pos q]
                simp only [lcut]
                rw [List.getElem?_take, if_pos (by omega), List.getElem?_drop, show off + (m - off) = m by omega]
              · rw [if_neg q]
            rw [this, setObj_self hob]
          rw [hst] at d
          exact ⟨γ', _, d, hR, hrun⟩
end
end Go.Va
set_option linter.unusedVariables false
namespace Go.Va
/-- one result, as the machine takes it -/
def runRes (tmps : Array Value) : ResultVar → Sem Value
  | .tmp t => pure (tmps.getD t undef)
  | .cell s t => do loadVar t (← asAddr (tmps.getD s undef))
section
variable {c : Cx} {γ : Gh} {st : St} {a : Act} {w : World} {o : Oper} {env : Env} {i : Nat}
theorem go_any {t k : Nat} (hi : Inv c γ st a w) {x : AV} (hx : fget st.fr t = x) (hal : x.isAl = false) : ∃ γ', Did c γ st γ' { st with fr := (t, .gone) :: st.fr } a w (· ≠ k) ∧ R γ' w (lim k) x (a.tmps.getD t undef) := by
  subst hx
  obtain ⟨γ', d, f⟩ := go_slot t k hi ⟨(by intro z h lo len e; rw [e] at hal; cases hal), (by intro h i off e; rw [e] at hal; cases hal)⟩
  exact ⟨γ', d, f.rel⟩
theorem resV1_ok (hA : env.A = realAr) (k t : Nat) (hi : Inv c γ st a w) {y : AV} {st1 : St} (h : resV1 env.A st (fget st.fr t) = some (y, st1)) :
    ∃ γ1, Did c γ st γ1 st1 a w (· ≠ k) ∧ R γ1 w (lim k) y (a.tmps.getD t undef) := by
  rw [hA] at h
  have free : (fget st.fr t).free = true → y = fget st.fr t → st1 = st → ∃ γ1, Did c γ st γ1 st1 a w (· ≠ k) ∧ R γ1 w (lim k) y (a.tmps.getD t undef) := by
    intro hf hy hs
    subst hy hs
    exact ⟨γ, .refl hi, R_free (KeepsF.refl γ) _ _ hf (hi.fm.val t)⟩
  unfold resV1 at h
  split at h
  · rename_i z s lo len hx
    obtain ⟨_, al⟩ := hi.fm.al t z _ lo len hx
    split at h
    · rename_i z2 xs hg
      obtain ⟨hk, h⟩ := bif_t2 h
      have hk : lo + len ≤ xs.length := by simpa [realAr] using hk
      obtain ⟨e0, e1, ha, cap, a', e2, e3, e4, e5⟩ := al.2 _ _ _ (show homeGet st (.slot s) = _ from hg) _ rfl
      subst e0
      cases hl : Nat.beq lo 0 with
      | true =>
        rw [hl] at h
        cases h
        have hl := beq_t hl
        subst hl
        have e4 := e4 rfl
        subst e4
        rw [Nat.sub_zero] at e3
        obtain ⟨γ', d, f⟩ := go_slot s k hi ⟨by simp [hg], by simp [hg]⟩
        have hv := f.rel
        rw [hg, e2] at hv
        refine ⟨γ', d, ?_⟩
        simp only [R] at hv ⊢
        rcases hv with ⟨rfl, e⟩ | ⟨b2, cap2, cs2, el2, q1, q2, q3, q4, q5, q6⟩
        · left
          injection e with e8 _ e9
          subst e8 e9
          have : len = 0 := by simpa using hk
          subst this
          exact ⟨by simp, e3⟩
        · right
          injection q1 with q1 _ q7
          subst q1 q7
          exact ⟨b2, cap, cs2, el2, by rw [e3]; congr 1; simp; omega, q2, q3, q4, by simp; omega, Dn_take _ _ q6⟩
      | false =>
        rw [hl] at h
        cases h
        have hfz : freezeAt st (.slot s) = some (z2, xs, { st with fr := (s, .sl z2 xs .imm) :: st.fr }) := by
          unfold freezeAt
          rw [show homeGet st (.slot s) = .sl z2 xs .full from hg]
          rfl
        obtain ⟨γ1, d1, u, p, g1, g2, g3⟩ := freezeAt_ok hi hfz
        cases g2
        refine ⟨γ1, d1.weaken (fun _ _ => trivial), ?_⟩
        simp only [R]
        exact imm_cut g3 e1 e2 e3 e5
    · rename_i z2 xs hg
      obtain ⟨hk, h⟩ := bif_t h
      cases h
      obtain ⟨e0, e1, ha, cap, a', e2, e3, e4, e5⟩ := al.2 _ _ _ (show homeGet st (.slot s) = _ from hg) _ rfl
      subst e0
      have hv := hi.fm.val s
      rw [hg] at hv
      simp only [R] at hv
      refine ⟨γ, .refl hi, ?_⟩
      simp only [R]
      exact imm_cut hv e1 e2 e3 e5
    · cases h
  · rename_i z hm lo len hne hx
    obtain ⟨_, al⟩ := hi.fm.al t z _ lo len hx
    split at h
    · rename_i z2 xs st2 hf
      obtain ⟨hk, h⟩ := bif_t h
      cases h
      obtain ⟨γ1, d1, u, p, g1, g2, g3⟩ := freezeAt_ok hi hf
      obtain ⟨e0, e1, ha, cap, a', e2, e3, e4, e5⟩ := al.2 _ _ _ g1 u g2
      subst e0
      refine ⟨γ1, d1.weaken (fun _ _ => trivial), ?_⟩
      simp only [R]
      exact imm_cut g3 e1 e2 e3 e5
    · cases h
  · rename_i hx; cases h; exact free (by rw [hx]; rfl) hx.symm rfl
  · rename_i hx; cases h; exact free (by rw [hx]; rfl) hx.symm rfl
  · rename_i hx; cases h; exact free (by rw [hx]; rfl) hx.symm rfl
  · rename_i hx; cases h; exact free (by rw [hx]; rfl) hx.symm rfl
  · rename_i hx; cases h; exact free (by rw [hx]; rfl) hx.symm rfl
  · cases h
theorem resOne_ok (E : EnvOk c.P env) (k : Nat) (hi : Inv c γ st a w) {r : ResultVar} {y : AV} {st1 : St} (h : resOne env st r = some (y, st1)) :
    ∃ γ1 v, Did c γ st γ1 st1 a w (· ≠ k) ∧ R γ1 w (lim k) y v ∧ (runRes a.tmps r).run c.P w = .ok v w := by
  unfold resOne at h
  cases r with
  | tmp t =>
    simp only at h
    split at h
    · rename_i z xs hx
      cases h
      obtain ⟨γ', d, r⟩ := go_any (k := k) hi hx rfl
      exact ⟨γ', _, d, r, rfl⟩
    · rename_i xs hx
      split at h
      · rename_i ys hp
        cases h
        obtain ⟨γ', d, r⟩ := go_any (k := k) hi hx rfl
        simp only [R] at r
        obtain ⟨cs, e, ho, hl⟩ := r
        obtain ⟨γ2, f, hl'⟩ := frz_plainL xs ys 0 cs.toList hp hl
        refine ⟨γ2, _, d.trans (lim_did d.inv f), ?_, rfl⟩
        simp only [R]
        exact ⟨cs, e, ho, hl'⟩
      · cases h
    · obtain ⟨γ1, d, r⟩ := resV1_ok E.A k t hi h
      exact ⟨γ1, _, d, r, rfl⟩
  | cell t T =>
    simp only at h
    split at h
    · rename_i ty i off hty hx
      obtain ⟨hag, h⟩ := bif_t2 h
      have hv := hi.fm.val t
      rw [hx] at hv
      simp only [R] at hv
      obtain ⟨b, hb, e⟩ := hv
      obtain ⟨γ', v, d, r, hrun⟩ := loadP_agg hi (E.tyOk hty) hag hb h
      refine ⟨γ', v, d.weaken (fun _ _ => trivial), r _, ?_⟩
      simp only [runRes, e, asAddr, Sem.run_bind, Sem.run_pure, Result.andThen_ok]
      simpa [Instr.loadAt, Instr.sureAddr] using hrun
    · cases h
theorem resAll_ok (E : EnvOk c.P env) : ∀ (rs : List ResultVar) {γ : Gh} {st st1 : St} {ys : List AV} (k : Nat), Inv c γ st a w → resAll env st rs = some (ys, st1) →
    ∃ γ1 vs, Did c γ st γ1 st1 a w (· < k) ∧ ys.length = rs.length ∧ vs.length = rs.length ∧ (∀ (j : Nat) (y : AV) (v : Value), ys[j]? = some y → vs[j]? = some v → R γ1 w (lim (k + j)) y v) ∧ (rs.mapM (runRes a.tmps)).run c.P w = .ok vs w
  | [], γ, st, st1, ys, k, hi, h => by
    simp only [resAll] at h
    cases h
    exact ⟨γ, [], .refl hi, rfl, rfl, fun j y v e => by simp at e, by simp⟩
  | r :: rs, γ, st, st1, ys, k, hi, h => by
    simp only [resAll] at h
    cases hv : resOne env st r with
    | none => rw [hv] at h; cases h
    | some q =>
      obtain ⟨y, st0⟩ := q
      rw [hv] at h
      simp only at h
      cases hs : resAll env st0 rs with
      | none => rw [hs] at h; cases h
      | some q =>
        obtain ⟨zs, st2⟩ := q
        rw [hs] at h
        cases h
        obtain ⟨γ0, v, d0, r0, run0⟩ := resOne_ok E k hi hv
        obtain ⟨γ1, vs, d1, l1, l2, h1, run1⟩ := resAll_ok E rs (k + 1) d0.inv hs
        refine ⟨γ1, v :: vs, (d0.weaken (fun m hm => by omega)).trans (d1.weaken (fun m hm => by omega)), by simp [l1], by simp [l2], ?_, ?_⟩
        · intro j y' v' e1 e2
          cases j with
          | zero =>
            simp at e1 e2
            subst e1 e2
            exact d1.lim k (by omega) [] _ _ r0
          | succ j =>
            rw [show k + (j + 1) = k + 1 + j by omega]
            exact h1 j y' v' (by simpa using e1) (by simpa using e2)
        · simp only [List.mapM_cons, Sem.run_bind, run0, Result.andThen_ok, run1, Sem.run_pure]
def oneOrTup : List Value → Value
  | [v] => v
  | vs => .tuple vs.toArray
theorem results_run {fn : Func} {tmps : Array Value} {P : Program} {vs : List Value} (h : (fn.results.toList.mapM (runRes tmps)).run P w = .ok vs w) : (results fn tmps).run P w = .ok (oneOrTup vs) w := by
  have e : fn.results.mapM (runRes tmps) = List.toArray <$> fn.results.toList.mapM (runRes tmps) := Array.mapM_eq_mapM_toList
  have h2 : (fn.results.mapM (runRes tmps)).run P w = .ok vs.toArray w := by
    rw [e, ← bind_pure_comp]
    simp only [Sem.run_bind, h, Result.andThen_ok, Sem.run_pure]
  have key : results fn tmps = (do let vs ← fn.results.mapM (runRes tmps); pure (if h : vs.size = 1 then vs[0] else .tuple vs)) := by
    unfold results
    congr 1
  rw [key]
  simp only [Sem.run_bind, h2, Result.andThen_ok, Sem.run_pure]
  match vs with
  | [] => rfl
  | [v] => rfl
  | _ :: _ :: _ => rfl
end
end Go.Va

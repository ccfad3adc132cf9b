/- The verified abstract interpreter, a part of it: no statement of its own. -/
import Derived.Test.YtmklimlepgiffabVa27
set_option linter.unusedVariables false
set_option linter.unusedSimpArgs false
set_option linter.unusedVariables false
namespace Go.Va
theorem ren_noAl {m : List Nat} {x y : AV} (h : x.ren m = some y) : y.isAl = false := by
  cases x <;> simp only [AV.ren] at h
  case ptr i off =>
    split at h
    · cases h; rfl
    · cases h
  case agg xs =>
    split at h
    · cases h; rfl
    · cases h
  case fn f a b =>
    split at h
    · cases h; rfl
    · cases h
  all_goals first | (cases h; rfl) | cases h
section
variable {c : Cx} {γ : Gh} {st : St} {a : Act} {w : World} {o : Oper} {env : Env} {i : Nat}
/-- what stands in a call's list, in the caller's words -/
structure Laid3 (c : Cx) (γ : Gh) (w : World) (m : List Nat) (xs : List AV) (vs : List Value) : Prop where
  len : xs.length = vs.length
  arg : ∀ (j : Nat) (x : AV) (v : Value), xs[j]? = some x → vs[j]? = some v → R γ w (lim j) x v ∨ (∃ z ys p, x = .sl z ys p ∧ p ≠ .full) ∧ V (γ.ent w m).cls x v
theorem Laid3.given (hi : Inv c γ st a w) {m : List Nat} {xs as : List AV} {vs : List Value} {O : Seg} (h : Laid3 c γ w m xs vs) (hm : m.Nodup) (hr : AV.ren.renL m xs = some as) (hO : renObjs m st.O m = some O) : Given c (γ.ent w m) w as O vs := by
  refine ⟨ent_wd hi.wd, ent_hp hi.hp hm hO, by rw [← renL_len xs hr, h.len], fun j y u e1 e2 => ?_, fun j y e => ?_⟩
  · obtain ⟨x, k1, k2⟩ := renL_get xs hr j y e1
    rcases h.arg j x u k1 e2 with k3 | ⟨⟨z, ys, p, rfl, hp⟩, k3⟩
    · exact R_ren x u k2 (ent_keeps ent_lim) k3
    · simp only [AV.ren] at k2
      cases k2
      cases p with
      | full => exact (hp rfl).elim
      | imm => simp only [R]; exact k3
      | ro => simp only [R]; exact k3
  · obtain ⟨x, k1, k2⟩ := renL_get xs hr j y e
    exact ren_noAl k2
theorem okCaps_get : ∀ (xs : List AV), okCaps xs = true → ∀ (j : Nat) (x : AV), xs[j]? = some x → x.free = true
  | xs, h, j, x, e => by
    have := okCaps_free xs h
    have key : ∀ (xs : List AV) (j : Nat) (x : AV), freeL xs = true → xs[j]? = some x → x.free = true := by
      intro xs
      induction xs with
      | nil => intro j x _ e; simp at e
      | cons y ys ih =>
        intro j x h e
        simp only [freeL, Bool.and_eq_true] at h
        cases j with
        | zero => simp at e; subst e; exact h.1
        | succ j => exact ih j x h.2 (by simpa using e)
    exact key xs j x this e
theorem calleeOf_ok (hi : Inv c γ st a w) {ce : Callee} {f : Nat} {first caps : List AV} (h : calleeOf st ce = some (f, first, caps)) (hc : okCaps first = true ∧ okCaps caps = true) :
    ∃ (x : Operand) (fa ca : Array Value), ce = .value x ∧ a.eval x = .func (.func f) fa ca ∧ first.length = fa.size ∧ caps.length = ca.size ∧
      (∀ (j : Nat) (x : AV), first[j]? = some x → ∃ v, fa[j]? = some v ∧ ∀ l, R γ w l x v) ∧ (∀ (j : Nat) (x : AV), caps[j]? = some x → ∃ v, ca[j]? = some v ∧ ∀ l, R γ w l x v) := by
  unfold calleeOf at h
  split at h
  · rename_i x
    split at h
    · rename_i g p q hx
      cases h
      have hr := opd_ok (l := lim 0) hi x (by rw [hx]; simp only [AV.free, okCaps_free _ hc.1, okCaps_free _ hc.2, Bool.and_self])
      rw [hx] at hr
      simp only [R] at hr
      obtain ⟨fa, ca, e, h1, h2⟩ := hr
      refine ⟨x, fa, ca, rfl, e, by simpa using (Rl_len first h1).symm, by simpa using (Rl_len caps h2).symm, fun j y hy => ?_, fun j y hy => ?_⟩
      · obtain ⟨v, v1, v2⟩ := Rl_get first h1 j y hy
        exact ⟨v, by simpa using v1, fun l => R_free (KeepsF.refl γ) y v (okCaps_get first hc.1 j y hy) v2⟩
      · obtain ⟨v, v1, v2⟩ := Rl_get caps h2 j y hy
        exact ⟨v, by simpa using v1, fun l => R_free (KeepsF.refl γ) y v (okCaps_get caps hc.2 j y hy) v2⟩
    · cases h
  · cases h
/-- first parameters, arguments, captured variables, one behind the other -/
theorem laid_all {m : List Nat} (hi : Inv c γ st a w) {args : List Operand} {us vs first caps : List AV} {fa ca : Array Value} (hl : us.length = args.length)
    (hv : ∀ j x, args[j]? = some x → ∃ u, us[j]? = some u ∧ R γ w (lim (first.length + j)) u (a.eval x) ∧ (∀ z hm lo len, u = .al z hm lo len → ∃ t, x = .tmp t ∧ fget st.fr t = u))
    (hlend : lendL realAr st us = some vs) (hap : apartN m (lentOf us) = true) (h1 : first.length = fa.size) (h2 : caps.length = ca.size)
    (hf : ∀ (j : Nat) (x : AV), first[j]? = some x → ∃ v, fa[j]? = some v ∧ ∀ l, R γ w l x v) (hc : ∀ (j : Nat) (x : AV), caps[j]? = some x → ∃ v, ca[j]? = some v ∧ ∀ l, R γ w l x v) :
    Laid3 c γ w m (first ++ vs ++ caps) (fa.toList ++ args.map a.eval ++ ca.toList) := by
  obtain ⟨g1, g2⟩ := lendL_get hlend
  refine ⟨by simp [h1, h2, g1, hl], fun j x v ex ev => ?_⟩
  rw [List.append_assoc] at ex ev
  by_cases q1 : j < first.length
  · rw [List.getElem?_append_left q1] at ex
    rw [List.getElem?_append_left (by simpa [← h1] using q1)] at ev
    obtain ⟨v', k1, k2⟩ := hf j x ex
    have : v' = v := by
      have : fa.toList[j]? = some v' := by simpa using k1
      rw [ev] at this; cases this; rfl
    subst this
    exact .inl (k2 _)
  · rw [List.getElem?_append_right (by omega)] at ex
    rw [List.getElem?_append_right (by simp [← h1]; omega)] at ev
    simp only [Array.length_toList, ← h1] at ev
    by_cases q2 : j - first.length < vs.length
    · rw [List.getElem?_append_left q2] at ex
      rw [List.getElem?_append_left (by simp; omega)] at ev
      rw [List.getElem?_map] at ev
      cases ea : args[j - first.length]? with
      | none => rw [ea] at ev; cases ev
      | some x0 =>
        rw [ea] at ev
        simp only [Option.map_some, Option.some.injEq] at ev
        subst ev
        obtain ⟨u, e1, e2⟩ := g2 _ _ ex
        obtain ⟨u', e3, e4, e5⟩ := hv _ _ ea
        rw [e1] at e3
        cases e3
        cases u with
        | al z hm lo len =>
          right
          obtain ⟨t, rfl, et⟩ := e5 z hm lo len rfl
          obtain ⟨k1, k2⟩ := lend_ok (m := m) hi et e2 (fun i off e => by subst e; exact apartN_t hap i (lentOf_mem e1))
          obtain ⟨xs, p, k3, k4⟩ := k2
          exact ⟨⟨z, xs, p, k3, k4⟩, k1⟩
        | _ =>
          simp only [lendV] at e2
          cases e2
          left
          rwa [show first.length + (j - first.length) = j by omega] at e4
    · rw [List.getElem?_append_right (by omega)] at ex
      rw [List.getElem?_append_right (by simp; omega)] at ev
      simp only [List.length_map] at ev
      rw [← hl, ← g1] at ev
      obtain ⟨v', k1, k2⟩ := hc _ x ex
      have : v' = v := by
        have : ca.toList[j - first.length - vs.length]? = some v' := by simpa using k1
        rw [ev] at this; cases this; rfl
      subst this
      exact .inl (k2 _)
end
end Go.Va
set_option linter.unusedVariables false
namespace Go.Va
theorem mapO_get {f : AV → Option AV} : ∀ (xs : List AV) {ys : List AV}, mapO f xs = some ys → ys.length = xs.length ∧ ∀ (j : Nat) (y : AV), ys[j]? = some y → ∃ x, xs[j]? = some x ∧ f x = some y
  | [], ys, h => by simp only [mapO] at h; cases h; exact ⟨rfl, fun j y e => by simp at e⟩
  | x :: xs, ys, h => by
    simp only [mapO] at h
    cases hx : f x with
    | none => rw [hx] at h; cases h
    | some y' =>
      cases hu : mapO f xs with
      | none => rw [hx, hu] at h; cases h
      | some zs =>
        rw [hx, hu] at h; cases h
        obtain ⟨h1, h2⟩ := mapO_get xs hu
        refine ⟨by simp [h1], fun j y e => ?_⟩
        cases j with
        | zero => simp at e; subst e; exact ⟨x, by simp, hx⟩
        | succ j =>
          obtain ⟨x', k1, k2⟩ := h2 j y (by simpa using e)
          exact ⟨x', by simpa using k1, k2⟩
theorem Vl_of {cls : Nat → Cls} : ∀ (xs : List AV) (vs : List Value), xs.length = vs.length → (∀ (j : Nat) (x : AV) (v : Value), xs[j]? = some x → vs[j]? = some v → V cls x v) → Vl cls xs vs
  | [], [], _, _ => by simp [Vl]
  | [], _ :: _, h, _ => by simp at h
  | _ :: _, [], h, _ => by simp at h
  | x :: xs, v :: vs, h, k => by
    simp only [Vl]
    exact ⟨v, vs, rfl, k 0 x v rfl rfl, Vl_of xs vs (by simpa using h) (fun j y u e1 e2 => k (j + 1) y u (by simpa using e1) (by simpa using e2))⟩
section
variable {c : Cx} {γ : Gh} {st : St} {a : Act} {w : World} {o : Oper} {env : Env} {i : Nat}
theorem view_ok (hi : Inv c γ st a w) : ∀ (n : Nat) (x : AV) {y : AV} {v : Value} {l : Loc}, x.view st.O n = some y → one v → (∀ b q, γ.cls b = .own ⟨l.base, l.path ++ q⟩ → (γ.ent w []).cls b = roAt w b) → R γ w l x v → V (γ.ent w []).cls y v := by
  have himm : ∀ b o, γ.cls b = .imm o → (γ.ent w []).cls b = .imm o := fun b o e => by simp only [Gh.ent, e, entC]
  have hro : ∀ b o, γ.cls b = .ro o → (γ.ent w []).cls b = .ro o := fun b o e => by simp only [Gh.ent, e, entC]
  have base : ∀ (x : AV) {y : AV} {v : Value} {l : Loc}, one v → (∀ b q, γ.cls b = .own ⟨l.base, l.path ++ q⟩ → (γ.ent w []).cls b = roAt w b) → R γ w l x v →
      x.view0 = some y → V (γ.ent w []).cls y v := by
    intro x y v l h1 hl hr h
    unfold AV.view0 at h
    split at h
    · cases h; simpa only [R, V] using hr
    · cases h
      simp only [R] at hr
      simp only [V]
      rcases hr with ⟨rfl, rfl⟩ | ⟨b, cp, cs, el, q1, q2, q3, q4, q5, q6⟩
      · exact ⟨none, 0, rfl, Nat.le_refl _, .inl rfl⟩
      · refine ⟨_, cp, q1, q5, .inr ⟨b, 0, .cells cs el (0, 0), rfl, ?_, Dn_frame himm _ _ _ _ q6⟩⟩
        rw [hl b [] (by simpa using q2)]
        unfold roAt; rw [q3]
    · rename_i z xs p hp
      cases h
      cases p with
      | full => exact (hp rfl).elim
      | imm => simp only [R] at hr; exact V_frame himm hro _ _ hr
      | ro => simp only [R] at hr; exact V_frame himm hro _ _ hr
    · cases h; simp only [R] at hr; exact V_frame himm hro _ _ hr
    · cases h; simp only [V]; exact h1
    · cases h
  intro n
  induction n with
  | zero => intro x y v l h h1 hl hr; exact base x h1 hl hr h
  | succ n ih =>
    intro x y v l h h1 hl hr
    cases x with
    | ptr i off =>
      simp only [AV.view, lget_eq] at h
      cases ho : st.O[i]? with
      | none => rw [ho] at h; cases h
      | some o =>
        rw [ho] at h
        simp only at h
        cases hm : mapO (AV.view st.O n) o with
        | none => rw [hm] at h; cases h
        | some ys =>
          rw [hm] at h; cases h
          simp only [R] at hr
          obtain ⟨b, hb, rfl⟩ := hr
          obtain ⟨b', cs, el, k1, k2, k3, k4, hbe, k5⟩ := hi.hp.obj i o (by simp only [objAt, lget_eq]; exact ho)
          rw [hb] at k1
          cases k1
          obtain ⟨m1, m2⟩ := mapO_get o hm
          have hcls : (γ.ent w []).cls b = .ro (.cells cs el (0, 0)) := by
            simp only [Gh.ent, k2, entC, posN]
            unfold roAt; rw [k3]
          have : V (γ.ent w []).cls (.rp true ys) (.pointer (some ⟨b, 0, none⟩)) := by
            simp only [V]
            refine ⟨b, 0, .cells cs el (0, 0), cs.toList, rfl, hcls, Vl_of ys cs.toList (by simp [m1, k4]) (fun j z u e1 e2 => ?_), ⟨cs, el, (0, 0), rfl, fun j u e => by simpa using e⟩⟩
            obtain ⟨x0, n1, n2⟩ := m2 j z e1
            obtain ⟨u', v1, v2, v3⟩ := k5 j x0 n1
            have : u' = u := by
              have : cs.toList[j]? = some u' := by simpa using v1
              rw [e2] at this; cases this; rfl
            subst this
            exact ih x0 n2 v2 (fun b q e => by simp only at e; simp only [Gh.ent, e, entC, posN]) v3
          have := V_rp_drop (n := off) this
          simpa using this
    | _ => exact base _ h1 hl hr (by simpa only [AV.view] using h)
theorem ent0_slot (t : Nat) : ∀ b q, γ.cls b = .own ⟨(⟨.slot t, []⟩ : Loc).base, (⟨.slot t, []⟩ : Loc).path ++ q⟩ → (γ.ent w []).cls b = roAt w b := by
  intro b q e
  simp only [Gh.ent, e, entC]
theorem plainL_of : ∀ (xs : List AV), freeL xs = true → ∀ (j : Nat) (x : AV), xs[j]? = some x → x.free = true
  | [], _, j, x, e => by simp at e
  | y :: ys, h, j, x, e => by
    simp only [freeL, Bool.and_eq_true] at h
    cases j with
    | zero => simp at e; subst e; exact h.1
    | succ j => exact plainL_of ys h.2 j x (by simpa using e)
theorem view0_noAl {x y : AV} (h : x.view0 = some y) : y.isAl = false := by
  unfold AV.view0 at h
  split at h <;> cases h <;> rfl
theorem view_noAl {O : Seg} {n : Nat} {x y : AV} (h : x.view O n = some y) : y.isAl = false := by
  cases n with
  | zero => exact view0_noAl h
  | succ n =>
    cases x with
    | ptr i off =>
      simp only [AV.view] at h
      split at h
      · split at h
        · cases h; rfl
        · cases h
      · cases h
    | _ => exact view0_noAl (by simpa only [AV.view] using h)
/-- a list of free values is viewed -/
theorem viewL_ok (hi : Inv c γ st a w) {n : Nat} {xs ys : List AV} {vs : List Value} {l l' : Loc} {k k' : Nat} (h : mapO (AV.view st.O n) xs = some ys) (hf : freeL xs = true) (ho : ∀ u ∈ vs, one u) (hr : Rl γ w l k xs vs) : Rl (γ.ent w []) w l' k' ys vs := by
  obtain ⟨m1, m2⟩ := mapO_get xs h
  have hlen := Rl_len xs hr
  refine Laid.rl ys vs k' (by rw [m1, hlen]) (fun j y e => ?_)
  obtain ⟨x, k1, k2⟩ := m2 j y e
  obtain ⟨v, v1, v2⟩ := Rl_get xs hr j x k1
  refine ⟨v, v1, ?_⟩
  have := view_ok hi n x (l := ⟨.slot 0, []⟩) k2 (ho v (List.mem_of_getElem? v1)) (ent0_slot 0) (R_free (KeepsF.refl γ) x v (plainL_of xs hf j x k1) v2)
  exact (V_R this).1
/-- the elements of a function value's lists are single values -/
theorem Given.view (hi : Inv c γ st a w) {xs as : List AV} {vs : List Value} (h : Laid3 c γ w [] xs vs) (hr : viewArgs st.O xs = some as) (hone : ∀ (j : Nat) (x : AV) (v : Value), xs[j]? = some x → vs[j]? = some v → (∀ ys, x = .agg ys → freeL ys = true) ∧ (∀ f p q, x = .fn f p q → freeL p = true ∧ freeL q = true ∧ ∀ fa ca, v = .func (.func f) fa ca → (∀ u ∈ fa.toList, one u) ∧ (∀ u ∈ ca.toList, one u)) ∧ ((∀ ys, x ≠ .agg ys) → one v)) :
    Given c (γ.ent w []) w as [] vs := by
  obtain ⟨m1, m2⟩ := mapO_get xs hr
  refine ⟨ent_wd hi.wd, ent_hp hi.hp (by simp) rfl, by rw [m1, h.len], fun j y u e1 e2 => ?_, fun j y e => ?_⟩
  · obtain ⟨x, k1, k2⟩ := m2 j y e1
    obtain ⟨hag, hfn, hon⟩ := hone j x u k1 e2
    rcases h.arg j x u k1 e2 with k3 | ⟨⟨z, ys, p, rfl, hp⟩, k3⟩
    · unfold AV.viewA at k2
      split at k2
      · cases k2
        exact R_ren _ u (m := []) (by simp only [AV.ren]) (ent_keeps ent_lim) k3
      · rename_i ys
        split at k2
        · rename_i zs hz
          cases k2
          simp only [R] at k3 ⊢
          obtain ⟨cs, e, ho, hl⟩ := k3
          exact ⟨cs, e, ho, viewL_ok hi hz (hag ys rfl) ho hl⟩
        · cases k2
      · rename_i f p q
        split at k2
        · rename_i p' q' hp hq
          cases k2
          simp only [R] at k3 ⊢
          obtain ⟨fa, ca, e, h1, h2⟩ := k3
          obtain ⟨f1, f2, f3⟩ := hfn f p q rfl
          obtain ⟨o1, o2⟩ := f3 fa ca e
          exact ⟨fa, ca, e, viewL_ok hi hp f1 o1 h1, viewL_ok hi hq f2 o2 h2⟩
        · cases k2
      · rename_i h1 h2 h3
        have hfree : x.free = true := by
          cases x with
          | sl z ys p => exact (h1 z ys p rfl).elim
          | agg ys => exact (h2 ys rfl).elim
          | fn f p q => exact (h3 f p q rfl).elim
          | nb ys => simp [AV.view, AV.view0] at k2
          | tup ys => simp [AV.view, AV.view0] at k2
          | _ => rfl
        have := view_ok hi 8 x (l := ⟨.slot 0, []⟩) k2 (hon (fun ys e => (h2 ys e).elim)) (ent0_slot 0) (R_free (KeepsF.refl γ) x u hfree k3)
        exact (V_R this).1
    · simp only [AV.viewA] at k2
      cases k2
      cases p with
      | full => exact (hp rfl).elim
      | imm => simp only [R]; exact k3
      | ro => simp only [R]; exact k3
  · obtain ⟨x, k1, k2⟩ := m2 j y e
    unfold AV.viewA at k2
    split at k2
    · cases k2; rfl
    · split at k2
      · cases k2; rfl
      · cases k2
    · split at k2
      · cases k2; rfl
      · cases k2
    · exact view_noAl k2
end
end Go.Va
set_option linter.unusedVariables false
namespace Go.Va
theorem putBack_get {m : List Nat} {base : Nat} : ∀ (l : List Nat) (O2 O : Seg), l.Nodup → (∀ i ∈ l, i < O.length) → l.length ≤ O2.length →
    (putBack m base l O2 O).length = O.length + (O2.length - l.length) ∧
    (∀ i, i < O.length → (putBack m base l O2 O)[i]? = match posN i l with | some j => (O2[j]?).map (AV.renB.renBL m base) | none => O[i]?) ∧
    (∀ q, (putBack m base l O2 O)[O.length + q]? = (O2[l.length + q]?).map (AV.renB.renBL m base))
  | [], O2, O, _, _, _ => by
    unfold putBack
    refine ⟨by simp, fun i h => ?_, fun q => ?_⟩
    · rw [List.getElem?_append_left h]; simp [posN]
    · rw [List.getElem?_append_right (by omega)]; simp
  | i0 :: l, [], O, _, _, h => by simp at h
  | i0 :: l, o :: O2, O, hn, hl, hlen => by
    unfold putBack
    rw [List.nodup_cons] at hn
    have hi0 := hl i0 (by simp)
    obtain ⟨h1, h2, h3⟩ := putBack_get (m := m) (base := base) l O2 (lset O i0 (AV.renB.renBL m base o)) hn.2 (fun i hi => by rw [lset_eq, List.length_set]; exact hl i (by simp [hi])) (by simpa using hlen)
    rw [lset_eq, List.length_set] at h1 h2 h3
    refine ⟨by rw [lset_eq, h1]; simp, fun i h => ?_, fun q => ?_⟩
    · rw [lset_eq, h2 i h]
      by_cases e : i0 = i
      · subst e
        have hp : posN i0 l = none := by
          cases hp : posN i0 l with
          | none => rfl
          | some j => exact (hn.1 (List.mem_of_getElem? (posN_some hp))).elim
        rw [hp]
        simp [posN, Nat.beq_refl, hi0]
      · have hb : Nat.beq i0 i = false := by
          cases hb : Nat.beq i0 i with
          | true => exact (e (beq_t hb)).elim
          | false => rfl
        simp only [posN, hb, cond_false]
        cases hp : posN i l with
        | none => simp [List.getElem?_set, e]
        | some j => simp
    · rw [lset_eq, h3 q]
      rw [show (i0 :: l).length + q = (l.length + q) + 1 by simp; omega]
      simp
theorem renBL_eq (m : List Nat) (base : Nat) : ∀ xs : List AV, AV.renB.renBL m base xs = xs.map (AV.renB m base)
  | [] => rfl
  | x :: xs => by simp [AV.renB.renBL, renBL_eq m base xs]
/-- What is said of a value that comes back lives on, objects having their old numbers again. -/
structure KeepsB (γ γ' : Gh) (w w' : World) (l l' : Loc) (f : Nat → Nat) : Prop where
  imm : ∀ b o, γ.cls b = .imm o → γ'.cls b = .imm o
  own : ∀ b q, γ.cls b = .own ⟨l.base, l.path ++ q⟩ → γ'.cls b = .own ⟨l'.base, l'.path ++ q⟩ ∧ w'.heap[b]? = w.heap[b]?
  ob : ∀ j b, γ.ob j = some b → γ'.ob (f j) = some b
theorem KeepsB.sub {γ γ' : Gh} {w w' : World} {l l' : Loc} {f : Nat → Nat} (h : KeepsB γ γ' w w' l l' f) (n : Nat) : KeepsB γ γ' w w' (l.sub n) (l'.sub n) f :=
  ⟨h.imm, fun b q k => by
    have := h.own b (n :: q) (by simpa [Loc.sub] using k)
    simpa [Loc.sub] using this, h.ob⟩
theorem back_cell {γ γ' : Gh} {w w' : World} {l l' : Loc} {m : List Nat} {base : Nat} (k : KeepsB γ γ' w w' l l' (back m base)) {x : AV} {v : Value} (h : x.cellOk = true) (hr : R γ w l x v) : R γ' w' l' (x.renB m base) v := by
  cases x with
  | s u => simp only [AV.renB]; simp only [R] at hr ⊢; exact hr
  | ptr i off =>
    simp only [AV.renB]
    simp only [R] at hr ⊢
    obtain ⟨b, hb, e⟩ := hr
    exact ⟨b, k.ob i b hb, e⟩
  | unk => simp only [AV.renB, R]
  | sl z xs p =>
    simp only [AV.renB]
    cases p with
    | ro => cases h
    | imm => simp only [R, V] at hr ⊢; exact D_frame k.imm _ _ hr
    | full =>
      simp only [R] at hr ⊢
      refine hr.imp id ?_
      rintro ⟨b, cap, c, e, ev, hb, hh, hs, hl, hn⟩
      obtain ⟨k1, k2⟩ := k.own b [] (by simpa using hb)
      exact ⟨b, cap, c, e, ev, by simpa using k1, k2.trans hh, hs, hl, Dn_frame k.imm xs z _ 0 hn⟩
  | rp r xs =>
    cases r with
    | true => cases h
    | false =>
      simp only [AV.renB, R, V] at hr ⊢
      obtain ⟨b, off, o, vs, e, hb, hl, hc⟩ := hr
      exact ⟨b, off, o, vs, e, k.imm b o hb, Dl_frame k.imm xs vs hl, hc⟩
  | _ => cases h
theorem back_cells {γ γ' : Gh} {w w' : World} {m : List Nat} {base : Nat} : ∀ (xs : List AV) {l l' : Loc} (n : Nat) (vs : List Value), KeepsB γ γ' w w' l l' (back m base) → allCellOk xs = true → Rl γ w l n xs vs → Rl γ' w' l' n (AV.renB.renBL m base xs) vs
  | [], _, _, n, vs, k, h, hr => by simp only [AV.renB.renBL]; simp only [Rl] at hr ⊢; exact hr
  | x :: xs, _, _, n, vs, k, h, hr => by
    simp only [allCellOk, Bool.and_eq_true] at h
    simp only [AV.renB.renBL]
    simp only [Rl] at hr ⊢
    obtain ⟨v, vs', e, h1, h2⟩ := hr
    exact ⟨v, vs', e, back_cell (k.sub n) h.1 h1, back_cells xs (n + 1) vs' k h.2 h2⟩
theorem back_out {γ γ' : Gh} {w w' : World} {l l' : Loc} {m : List Nat} {base : Nat} (k : KeepsB γ γ' w w' l l' (back m base)) {x : AV} {v : Value} (h : x.outOk = true) (hr : R γ w l x v) : R γ' w' l' (x.renB m base) v := by
  cases x with
  | agg xs =>
    simp only [AV.outOk] at h
    simp only [AV.renB]
    simp only [R] at hr ⊢
    obtain ⟨cs, e, ho, hl⟩ := hr
    exact ⟨cs, e, ho, back_cells xs 0 _ k h hl⟩
  | s u => exact back_cell k rfl hr
  | ptr i off => exact back_cell k rfl hr
  | unk => exact back_cell k rfl hr
  | sl z xs p => exact back_cell k (by cases p <;> first | rfl | cases h) hr
  | rp r xs => exact back_cell k (by cases r <;> first | rfl | cases h) hr
  | _ => cases h
theorem back_outs {γ γ' : Gh} {w w' : World} {m : List Nat} {base : Nat} : ∀ (xs : List AV) {l l' : Loc} (n : Nat) (vs : List Value), KeepsB γ γ' w w' l l' (back m base) → allOut xs = true → Rl γ w l n xs vs → Rl γ' w' l' n (AV.renB.renBL m base xs) vs
  | [], _, _, n, vs, k, h, hr => by simp only [AV.renB.renBL]; simp only [Rl] at hr ⊢; exact hr
  | x :: xs, _, _, n, vs, k, h, hr => by
    simp only [allOut, Bool.and_eq_true] at h
    simp only [AV.renB.renBL]
    simp only [Rl] at hr ⊢
    obtain ⟨v, vs', e, h1, h2⟩ := hr
    exact ⟨v, vs', e, back_out (k.sub n) h.1 h1, back_outs xs (n + 1) vs' k h.2 h2⟩
/-- what a call may yield -/
def AV.resOk : AV → Bool
  | .tup xs => allOut xs
  | x => x.outOk
theorem back_res {γ γ' : Gh} {w w' : World} {l l' : Loc} {m : List Nat} {base : Nat} (k : KeepsB γ γ' w w' l l' (back m base)) {x : AV} {v : Value} (h : x.resOk = true) (hr : R γ w l x v) : R γ' w' l' (x.renB m base) v := by
  cases x with
  | tup xs =>
    simp only [AV.resOk] at h
    simp only [AV.renB]
    simp only [R] at hr ⊢
    obtain ⟨cs, e, hl⟩ := hr
    exact ⟨cs, e, back_outs xs 0 _ k h hl⟩
  | _ => exact back_out k h hr
/-- the caller's view of a block, behind a call -/
def retC (m : List Nat) (base : Nat) (old : Cls) : Cls → Cls
  | .imm o => .imm o
  | .ro _ => old
  | .other => .other
  | .obj j => .obj (back m base j)
  | .own ⟨.cell j off, p⟩ => .own ⟨.cell (back m base j) off, p⟩
  | .own ⟨.limbo k, p⟩ => .own ⟨.limbo k, p⟩
  | .own ⟨.slot _, _⟩ => .other
def Gh.ret (γ γ' : Gh) (m : List Nat) (base : Nat) : Gh :=
  ⟨fun b => retC m base (γ.cls b) (γ'.cls b), fun i => if i < base then γ.ob i else γ'.ob (m.length + (i - base))⟩
end Go.Va

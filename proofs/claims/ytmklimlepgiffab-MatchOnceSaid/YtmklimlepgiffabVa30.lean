/- The verified abstract interpreter, a part of it: no statement of its own. -/
import Derived.Test.YtmklimlepgiffabVa29
set_option linter.unusedVariables false
set_option linter.unusedSimpArgs false
set_option linter.unusedVariables false
namespace Go.Va
theorem bif_t {α : Type} {b : Bool} {x y : α} (h : (bif b then some x else none) = some y) : b = true ∧ x = y := by
  cases b
  · cases h
  · simp only [cond_true, Option.some.injEq] at h; exact ⟨rfl, h⟩
/-- what is left behind a call that yields v, with objects O2 -/
def CallPost (c : Cx) (γ : Gh) (w : World) (O : Seg) (v : AV) (O2 : Seg) (r : Value) (w' : World) : Prop :=
  ∃ γ', Wd c γ' w' ∧ Hp γ' { n := 0, k := O.length, fr := [], O := O2 } w' ∧ Ext γ { n := 0, k := O.length, fr := [], O := O } w γ' { n := 0, k := O.length, fr := [], O := O2 } w' ∧
    R γ' w' (lim 0) v r ∧ v.resOk = true ∧ allSegOk O2 = true
/-- A call yields v, and leaves objects O2. -/
def CallOk (c : Cx) (f : Nat) (as : List AV) (O : Seg) (v : AV) (O2 : Seg) : Prop :=
  ∀ γ w us, Given c γ w as O us →
    (∃ r w', (callFunc f us.toArray).run c.P w = .ok (.value r) w' ∧ CallPost c γ w O v O2 r w') ∨
    ((callFunc f us.toArray).run c.P w = .ok (.enter f us.toArray) w ∧ Calls c.P f us.toArray w fun e w' => ∃ r, e = .returned r ∧ CallPost c γ w O v O2 r w')
section
variable {c : Cx} {γ : Gh} {st : St} {a : Act} {w : World} {o : Oper} {env : Env} {i : Nat}
theorem argV_plain {A : Ar} {st1 : St} {x : Operand} {mode : Nat} {y : AV} (h : argV A st x mode = some (y, st1)) : (∀ ys, y = .agg ys → freeL ys = true) ∧ (∀ f p q, y = .fn f p q → okCaps p = true ∧ okCaps q = true) ∧ y ≠ .unk ∧ (∀ ys, y ≠ .tup ys) := by
  unfold argV at h
  split at h
  · split at h
    · cases h; simp
    · split at h
      · obtain ⟨_, h⟩ := bif_t h
        cases h; simp
      · cases h
    · split at h
      · obtain ⟨_, h⟩ := bif_t h
        cases h; simp
      · cases h
  · split at h
    · rename_i hp
      cases h
      exact ⟨fun zs e => (by cases e; exact plain_free _ _ hp), fun _ _ _ e => (by cases e), by simp, by simp⟩
    · cases h
  · cases h; simp
  · split at h
    · cases h; simp
    · cases h; simp
  · cases h; simp
  · cases h; simp
  · rename_i f p q st2 ht
    cases h
    refine ⟨by simp, ?_, by simp, by simp⟩
    rintro f' p' q' e
    cases e
    unfold takeV at ht
    cases x with
    | tmp t =>
      simp only at ht
      split at ht
      · cases ht
      · cases ht
      · cases ht
      · cases ht
      · cases ht
      · rename_i f2 p2 q2 _
        cases hc : okCaps p2 && okCaps q2 with
        | false => rw [hc] at ht; cases ht
        | true => rw [hc] at ht; cases ht; simpa using hc
      · rename_i h1 h2 h3 h4 h5 h6
        injection ht with ht
        injection ht with ht _
        exact (h6 _ _ _ ht).elim
    | const v => simp only [opd, constV] at ht; split at ht <;> cases ht
    | func g => simp only [opd] at ht; cases ht; exact ⟨rfl, rfl⟩
    | global g => simp only [opd] at ht; cases ht
  · cases h
theorem argsV_plain {A : Ar} : ∀ (xs : List Operand) (cs : List Nat) {st st1 : St} {us : List AV}, argsV A st xs cs = some (us, st1) → ∀ (j : Nat) (y : AV), us[j]? = some y → (∀ ys, y = .agg ys → freeL ys = true) ∧ (∀ f p q, y = .fn f p q → okCaps p = true ∧ okCaps q = true) ∧ y ≠ .unk ∧ (∀ ys, y ≠ .tup ys)
  | [], cs, st, st1, us, h, j, y, e => by simp only [argsV] at h; cases h; simp at e
  | x :: xs, cs, st, st1, us, h, j, y, e => by
    simp only [argsV] at h
    cases hv : argV A st x (modeOf cs) with
    | none => rw [hv] at h; cases h
    | some r =>
      obtain ⟨y0, st0⟩ := r
      rw [hv] at h
      simp only at h
      cases hs : argsV A st0 xs cs.tail with
      | none => rw [hs] at h; cases h
      | some r =>
        obtain ⟨zs, st2⟩ := r
        rw [hs] at h
        cases h
        cases j with
        | zero => simp at e; subst e; exact argV_plain hv
        | succ j => exact argsV_plain xs cs.tail hs j y (by simpa using e)
theorem okCaps_one : ∀ (xs : List AV) {γ : Gh} {w : World} {l : Loc} {n : Nat} {vs : List Value}, okCaps xs = true → Rl γ w l n xs vs → ∀ v ∈ vs, one v
  | [], γ, w, l, n, vs, _, hr, v, hv => by simp only [Rl] at hr; subst hr; cases hv
  | x :: xs, γ, w, l, n, vs, h, hr, v, hv => by
    simp only [Rl] at hr
    obtain ⟨u, vs', rfl, h1, h2⟩ := hr
    have hx : okCaps xs = true ∧ one u := by
      cases x with
      | s => simp only [okCaps] at h; simp only [R] at h1; exact ⟨h, h1.1 ▸ h1.2⟩
      | ptr => simp only [okCaps] at h; simp only [R] at h1; obtain ⟨b, _, e⟩ := h1; exact ⟨h, by rw [e]; trivial⟩
      | rp => simp only [okCaps] at h; simp only [R] at h1; obtain ⟨b, off, e⟩ := V_rp_ptr h1; exact ⟨h, by rw [e]; trivial⟩
      | sl z ys p =>
        cases p with
        | imm =>
          simp only [okCaps] at h
          obtain ⟨ad, cap, e, _⟩ := sl_cases h1 (by simp)
          exact ⟨h, by rw [e]; trivial⟩
        | full => simp [okCaps] at h
        | ro => simp [okCaps] at h
      | _ => simp [okCaps] at h
    rcases List.mem_cons.1 hv with rfl | hv
    · exact hx.2
    · exact okCaps_one xs hx.1 h2 v hv
/-- what a value that is no struct is: one cell -/
theorem resV_one {γ : Gh} {w : World} {l : Loc} {x : AV} {v : Value} (hr : R γ w l x v) (h1 : ∀ ys, x ≠ .agg ys) (h2 : x ≠ .unk) (h3 : ∀ ys, x ≠ .tup ys) (h4 : x.isAl = false) (h5 : x ≠ .gone) : one v := by
  cases x with
  | s u => simp only [R] at hr; rw [hr.1]; exact hr.2
  | agg ys => exact (h1 ys rfl).elim
  | tup ys => exact (h3 ys rfl).elim
  | unk => exact (h2 rfl).elim
  | gone => exact (h5 rfl).elim
  | al => cases h4
  | ep => cases h4
  | ptr => simp only [R] at hr; obtain ⟨b, _, e⟩ := hr; rw [e]; trivial
  | rp => simp only [R] at hr; obtain ⟨b, off, e⟩ := V_rp_ptr hr; rw [e]; trivial
  | nb => simp only [R] at hr; obtain ⟨b, cs, el, e, _⟩ := hr; rw [e]; trivial
  | fn => simp only [R] at hr; obtain ⟨fa, ca, e, _⟩ := hr; rw [e]; trivial
  | sl z ys p =>
    cases p with
    | full =>
      simp only [R] at hr
      rcases hr with ⟨_, e⟩ | ⟨b, cap, cs, el, e, _⟩ <;> rw [e] <;> trivial
    | imm => obtain ⟨ad, cap, e, _⟩ := sl_cases hr (by simp); rw [e]; trivial
    | ro => obtain ⟨ad, cap, e, _⟩ := sl_cases hr (by simp); rw [e]; trivial
end
end Go.Va
set_option linter.unusedVariables false
namespace Go.Va
section
variable {c : Cx} {γ : Gh} {st : St} {a : Act} {w : World} {o : Oper} {env : Env} {i : Nat}
theorem argV_some {A : Ar} {st1 : St} {x : Operand} {mode : Nat} {y : AV} (h : argV A st x mode = some (y, st1)) : y ≠ .gone ∧ (∀ h i off, y ≠ .ep h i off) ∧ ∀ ys, y ≠ .nb ys := by
  unfold argV at h
  split at h
  · split at h
    · cases h; simp
    · split at h
      · obtain ⟨_, h⟩ := bif_t h; cases h; simp
      · cases h
    · split at h
      · obtain ⟨_, h⟩ := bif_t h; cases h; simp
      · cases h
  · split at h
    · cases h; simp
    · cases h
  · cases h; simp
  · split at h
    · cases h; simp
    · cases h; simp
  · cases h; simp
  · cases h; simp
  · cases h; simp
  · cases h
theorem argsV_some {A : Ar} : ∀ (xs : List Operand) (cs : List Nat) {st st1 : St} {us : List AV}, argsV A st xs cs = some (us, st1) → ∀ (j : Nat) (y : AV), us[j]? = some y → y ≠ .gone ∧ (∀ h i off, y ≠ .ep h i off) ∧ ∀ ys, y ≠ .nb ys
  | [], cs, st, st1, us, h, j, y, e => by simp only [argsV] at h; cases h; simp at e
  | x :: xs, cs, st, st1, us, h, j, y, e => by
    simp only [argsV] at h
    cases hv : argV A st x (modeOf cs) with
    | none => rw [hv] at h; cases h
    | some r =>
      obtain ⟨y0, st0⟩ := r
      rw [hv] at h
      simp only at h
      cases hs : argsV A st0 xs cs.tail with
      | none => rw [hs] at h; cases h
      | some r =>
        obtain ⟨zs, st2⟩ := r
        rw [hs] at h
        cases h
        cases j with
        | zero => simp at e; subst e; exact argV_some hv
        | succ j => exact argsV_some xs cs.tail hs j y (by simpa using e)
theorem bif_t2 {α : Type} {b : Bool} {x : Option α} {y : α} (h : (bif b then x else none) = some y) : b = true ∧ x = some y := by
  cases b
  · cases h
  · exact ⟨rfl, h⟩
theorem okCaps_agg : ∀ (xs : List AV), okCaps xs = true → ∀ (j : Nat) (x : AV), xs[j]? = some x → (∀ ys, x ≠ .agg ys) ∧ ∀ f p q, x ≠ .fn f p q
  | [], _, j, x, e => by simp at e
  | y :: ys, h, j, x, e => by
    have : okCaps ys = true ∧ (∀ ys, y ≠ .agg ys) ∧ ∀ f p q, y ≠ .fn f p q := by
      cases y with
      | s => simp only [okCaps] at h; exact ⟨h, by simp, by simp⟩
      | ptr => simp only [okCaps] at h; exact ⟨h, by simp, by simp⟩
      | rp => simp only [okCaps] at h; exact ⟨h, by simp, by simp⟩
      | sl z ys p =>
        cases p with
        | imm => simp only [okCaps] at h; exact ⟨h, by simp, by simp⟩
        | full => simp [okCaps] at h
        | ro => simp [okCaps] at h
      | _ => simp [okCaps] at h
    cases j with
    | zero => simp at e; subst e; exact this.2
    | succ j => exact okCaps_agg ys this.1 j x (by simpa using e)
/-- what a call is given, and how the caller goes on behind it -/
theorem callOf_ok (hA : env.A = realAr) (hi : Inv c γ st a w) {ce : Callee} {f : Nat} {args : List Operand} {m : List Nat} {as : List AV} {O : Seg} {st0 : St} (h : callOf env st ce f args = some (m, as, O, st0)) :
    ∃ (x : Operand) (fa ca : Array Value) (γe : Gh), ce = .value x ∧ a.eval x = .func (.func f) fa ca ∧ Given c γe w as O (fa.toList ++ args.map a.eval ++ ca.toList) ∧
      ∀ v O2 y st2, afterCall m st0 v O2 = some (y, st2) → ∀ r w', CallPost c γe w O v O2 r w' → ∃ γ', Inv c γ' st2 a w' ∧ Ext γ st w γ' st2 w' ∧ Flow γ' st2 a w' 0 y r := by
  unfold callOf at h
  cases hv : argsV env.A st args (env.cons f) with
  | none => rw [hv] at h; cases h
  | some r =>
    obtain ⟨us, st1⟩ := r
    rw [hv] at h
    simp only at h
    cases hl : lendL env.A st1 us with
    | none => rw [hl] at h; cases h
    | some vs =>
      cases hce : calleeOf st1 ce with
      | none => rw [hl, hce] at h; cases h
      | some r =>
        obtain ⟨g, first, caps⟩ := r
        rw [hl, hce] at h
        simp only at h
        obtain ⟨hb, h⟩ := bif_t2 h
        simp only [Bool.and_eq_true] at hb
        have hg := beq_t hb.1
        subst hg
        rw [hA] at hv hl
        obtain ⟨γ1, d, k1, k2, k3⟩ := argsV_ok args (env.cons g) first.length hi hv
        obtain ⟨x, fa, ca, e1, e2, e3, e4, e5, e6⟩ := calleeOf_ok d.inv hce hb.2
        have fin : ∀ {m : List Nat} {O0 : Seg} {v : AV} {O2 : Seg} {y : AV} {st2 : St}, m.Nodup → renObjs m st1.O m = some O0 → afterCall m { st1 with fr := dropAl m st1.fr } v O2 = some (y, st2) → ∀ r w', CallPost c (γ1.ent w m) w O0 v O2 r w' →
            ∃ γ', Inv c γ' st2 a w' ∧ Ext γ st w γ' st2 w' ∧ Flow γ' st2 a w' 0 y r := by
          intro m O0 v O2 y st2 hm hO hac r w' hp
          obtain ⟨γ', p1, p2, p3, p4, p5, p6⟩ := hp
          have hlen := (renObjs_get m hO).1
          rw [hlen] at p2 p3
          obtain ⟨q1, q2, q3⟩ := ret_ok d.inv hm hO p1 p2 p3 p4 p5 p6
          unfold afterCall at hac
          obtain ⟨_, hac⟩ := bif_t hac
          cases hac
          refine ⟨_, q1, d.ext.trans q2, .free q3 ?_ ?_⟩
          · intro z h lo len e
            cases v <;> simp only [AV.renB] at e <;> cases e
            cases p5
          · intro h i off e
            cases v <;> simp only [AV.renB] at e <;> cases e
            cases p5
        have hlaid : ∀ m, apartN m (lentOf us) = true → Laid3 c γ1 w m (first ++ vs ++ caps) (fa.toList ++ args.map a.eval ++ ca.toList) := fun m hap => laid_all d.inv k1 k3 hl hap e3 e4 e5 e6
        cases hpu : env.pure g with
        | true =>
          rw [hpu] at h
          simp only [cond_true] at h
          cases hva : viewArgs st1.O (first ++ vs ++ caps) with
          | none => rw [hva] at h; cases h
          | some as' =>
            rw [hva] at h
            cases h
            have hap : apartN [] (lentOf us) = true := by
              generalize lentOf us = l
              induction l with
              | nil => rfl
              | cons i l ih => simp only [apartN, hasN, ih, Bool.not_false, Bool.and_self]
            have hL := hlaid [] hap
            refine ⟨x, fa, ca, γ1.ent w [], e1, e2, Given.view d.inv hL hva ?_, ?_⟩
            · intro j y u ey eu
              -- where it stands
              rw [List.append_assoc] at ey
              by_cases q1 : j < first.length
              · rw [List.getElem?_append_left q1] at ey
                obtain ⟨n1, n2⟩ := okCaps_agg first hb.2.1 j y ey
                refine ⟨fun ys e => (n1 ys e).elim, fun f p q e => (n2 f p q e).elim, fun _ => ?_⟩
                obtain ⟨v', v1, v2⟩ := e5 j y ey
                have hmem : v' = u := by
                  rw [List.append_assoc, List.getElem?_append_left (by simpa [← e3] using q1)] at eu
                  have : fa.toList[j]? = some v' := by simpa using v1
                  rw [eu] at this; cases this; rfl
                subst hmem
                have hf := okCaps_free first hb.2.1
                exact okCaps_one first (γ := γ1) (w := w) (l := lim 0) (n := 0) (vs := fa.toList) hb.2.1 (Laid.rl first fa.toList 0 (by simp [e3]) (fun j x hx => by obtain ⟨v, v1, v2⟩ := e5 j x hx; exact ⟨v, by simpa using v1, v2 _⟩)) v' (by simpa using Array.mem_of_getElem? v1)
              · rw [List.getElem?_append_right (by omega)] at ey
                by_cases q2 : j - first.length < vs.length
                · rw [List.getElem?_append_left q2] at ey
                  obtain ⟨g1, g2⟩ := lendL_get hl
                  obtain ⟨u0, u1, u2⟩ := g2 _ _ ey
                  obtain ⟨m1, m2, m3, m4⟩ := argsV_plain args (env.cons g) hv _ _ u1
                  obtain ⟨m5, m6, m7⟩ := argsV_some args (env.cons g) hv _ _ u1
                  have hcase : y = u0 ∧ y.isAl = false ∨ ∃ z ys p, y = .sl z ys p := by
                    cases u0 with
                    | al z hm lo len =>
                      right
                      unfold lendV at u2
                      split at u2
                      · split at u2
                        · obtain ⟨_, u2⟩ := bif_t u2; exact ⟨_, _, _, u2.symm⟩
                        · obtain ⟨_, u2⟩ := bif_t u2; exact ⟨_, _, _, u2.symm⟩
                        · cases u2
                      · rename_i hn; exact (hn _ _ _ _ rfl).elim
                    | ep => exact (m6 _ _ _ rfl).elim
                    | _ => simp only [lendV] at u2; cases u2; exact .inl ⟨rfl, rfl⟩
                  have hR := hL.arg j y u (by rw [List.append_assoc, List.getElem?_append_right (by omega), List.getElem?_append_left q2]; exact ey) eu
                  rcases hcase with ⟨rfl, hal⟩ | ⟨z, ys, p, rfl⟩
                  · refine ⟨m1, fun f p q e => ?_, fun hag => ?_⟩
                    · obtain ⟨n1, n2⟩ := m2 f p q e
                      refine ⟨okCaps_free p n1, okCaps_free q n2, fun fa' ca' e' => ?_⟩
                      rcases hR with hR | ⟨⟨_, _, _, e'', _⟩, _⟩
                      · rw [e] at hR
                        simp only [R] at hR
                        obtain ⟨fa2, ca2, r1, r2, r3⟩ := hR
                        rw [e'] at r1
                        injection r1 with _ r4 r5
                        subst r4 r5
                        exact ⟨okCaps_one p n1 r2, okCaps_one q n2 r3⟩
                      · rw [e] at e''; cases e''
                    · rcases hR with hR | ⟨_, hV⟩
                      · exact resV_one hR hag m3 m4 hal m5
                      · exact V_one hV
                  · refine ⟨fun ys e => (by cases e), fun _ _ _ e => (by cases e), fun _ => ?_⟩
                    rcases hR with hR | ⟨_, hV⟩
                    · exact resV_one hR (by simp) (by simp) (by simp) rfl (by simp)
                    · exact V_one hV
                · rw [List.getElem?_append_right (by omega)] at ey
                  obtain ⟨n1, n2⟩ := okCaps_agg caps hb.2.2 _ y ey
                  refine ⟨fun ys e => (n1 ys e).elim, fun f p q e => (n2 f p q e).elim, fun _ => ?_⟩
                  have hR := hL.arg j y u (by rw [List.append_assoc, List.getElem?_append_right (by omega), List.getElem?_append_right (by omega)]; exact ey) eu
                  have hnu : y ≠ .unk ∧ (∀ ys, y ≠ .tup ys) ∧ y.isAl = false ∧ y ≠ .gone := by
                    have key : ∀ (xs : List AV) (j : Nat) (x : AV), okCaps xs = true → xs[j]? = some x → x ≠ .unk ∧ (∀ ys, x ≠ .tup ys) ∧ x.isAl = false ∧ x ≠ .gone := by
                      intro xs
                      induction xs with
                      | nil => intro j x _ e; simp at e
                      | cons z zs ih =>
                        intro j x h e
                        have : okCaps zs = true ∧ z ≠ .unk ∧ (∀ ys, z ≠ .tup ys) ∧ z.isAl = false ∧ z ≠ .gone := by
                          cases z with
                          | s => simp only [okCaps] at h; exact ⟨h, by simp, by simp, rfl, by simp⟩
                          | ptr => simp only [okCaps] at h; exact ⟨h, by simp, by simp, rfl, by simp⟩
                          | rp => simp only [okCaps] at h; exact ⟨h, by simp, by simp, rfl, by simp⟩
                          | sl z ys p =>
                            cases p with
                            | imm => simp only [okCaps] at h; exact ⟨h, by simp, by simp, rfl, by simp⟩
                            | full => simp [okCaps] at h
                            | ro => simp [okCaps] at h
                          | _ => simp [okCaps] at h
                        cases j with
                        | zero => simp at e; subst e; exact this.2
                        | succ j => exact ih j x this.1 (by simpa using e)
                    exact key caps _ y hb.2.2 ey
                  rcases hR with hR | ⟨_, hV⟩
                  · exact resV_one hR n1 hnu.1 hnu.2.1 hnu.2.2.1 hnu.2.2.2
                  · exact V_one hV
            · intro v O2 y st2 hac r w' hp
              refine fin (m := []) (O0 := []) (by simp) rfl ?_ r w' hp
              rw [dropAl_nil]
              exact hac
        | false =>
          rw [hpu] at h
          simp only [cond_false] at h
          cases hre : reachF st1.O 200 (AV.ptrs.ptrsL (first ++ vs ++ caps)) [] with
          | none => rw [hre] at h; cases h
          | some m' =>
            rw [hre] at h
            simp only at h
            obtain ⟨hap, h⟩ := bif_t2 h
            cases hrn : AV.ren.renL m' (first ++ vs ++ caps) with
            | none => rw [hrn] at h; cases h
            | some as' =>
              cases hro : renObjs m' st1.O m' with
              | none => rw [hrn, hro] at h; cases h
              | some O' =>
                rw [hrn, hro] at h
                cases h
                have hnd := (reachF_nodup 200 _ [] List.nodup_nil hre).1
                refine ⟨x, fa, ca, γ1.ent w m, e1, e2, (hlaid m hap).given d.inv hnd hrn hro, fun v O2 y st2 hac r w' hp => fin hnd hro hac r w' hp⟩
end
end Go.Va

/- The verified abstract interpreter, a part of it: no statement of its own. -/
import Derived.Test.YtmklimlepgiffabVa33
set_option linter.unusedVariables false
set_option linter.unusedSimpArgs false
set_option linter.unusedVariables false
namespace Go.Va
/-- less is said -/
structure Weak (st1 st2 : St) : Prop where
  n : st1.n = st2.n
  k : st1.k = st2.k
  O : st1.O = st2.O
  fr : ∀ t, fget st1.fr t = fget st2.fr t ∨ fget st1.fr t = .unk ∧ (fget st2.fr t).owner = false
def exitOf : Ex → Exit
  | .normal => .normal
  | .exit id => .exit id
  | .ret => .ret
/-- A text leads from a state to another one. -/
def CodeOk (c : Cx) (cd : Code) (st : St) (e : Ex) (st1 : St) : Prop :=
  ∀ γ a w (Q : Exit → Act → World → Prop), Inv c γ st a w → (∀ γ' a' w', Inv c γ' st1 a' w' → Ext γ st w γ' st1 w' → Q (exitOf e) a' w') → cd.wp c.P Q a w
def TaskOk (c : Cx) : Task → Res → Prop
  | .code f cd st, .code e st1 => CodeOk c cd st e st1
  | .call f as O, .ret v O2 => CallOk c f as O v O2
  | _, _ => False
/-- Functions that are taken by their contracts. -/
def ExtOk (c : Cx) (env : Env) : Prop :=
  ∀ f e, env.ext f = some e → ∀ E : Task → Option Res, (∀ t r, E t = some r → TaskOk c t r) → ∀ as O r, (e as O).run E = some r → TaskOk c (.call f as O) r
section
variable {c : Cx} {γ : Gh} {st : St} {a : Act} {w : World} {o : Oper} {env : Env} {i : Nat}
theorem Weak.inv {st1 st2 : St} (h : Weak st1 st2) (hi : Inv c γ st2 a w) : Inv c γ st1 a w := by
  have := kill_inv hi h.fr
  have e : { st2 with fr := st1.fr } = st1 := by
    cases st1; cases st2
    simp only [St.mk.injEq]
    exact ⟨h.n.symm, h.k.symm, trivial, h.O.symm⟩
  rw [e] at this
  exact this
theorem drew_inv (hi : Inv c γ st a w) : Inv c γ st a { w with drawn := w.drawn + 1 } := by
  have hR : ∀ {l x v}, R γ w l x v → R γ { w with drawn := w.drawn + 1 } l x v := fun {l x v} h => R_keep (γ := γ) (γ' := γ) (w := w) (w' := { w with drawn := w.drawn + 1 }) x (l := l) (l' := l) ⟨fun _ _ e => e, fun _ _ e => e, fun _ _ e => ⟨e, rfl⟩, fun _ _ e => e⟩ v h
  refine ⟨⟨hi.wd.still, hi.wd.low, hi.wd.new, hi.wd.size, hi.wd.os, hi.wd.tape, hi.wd.out⟩, ⟨fun i o e => ?_, hi.hp.fresh, hi.hp.back, hi.hp.k⟩, ⟨fun t => hR (hi.fm.val t), ?_, ?_, hi.fm.n, hi.fm.defers⟩⟩
  · obtain ⟨b, cs, el, h1, h2, h3, h4, hbe, h5⟩ := hi.hp.obj i o e
    exact ⟨b, cs, el, h1, h2, h3, h4, hbe, fun j x hx => by obtain ⟨v, k1, k2, k3⟩ := h5 j x hx; exact ⟨v, k1, k2, hR k3⟩⟩
  · intro t z h lo len e
    have := hi.fm.al t z h lo len e
    cases h <;> exact this
  · intro t h i off e
    have := hi.fm.ep t h i off e
    cases h <;> exact this
theorem fget_init (as : List AV) : ∀ (n t : Nat), fget (initFr n as) t = if n ≤ t then (as[t - n]?).getD .unk else .unk := by
  induction as with
  | nil => intro n t; simp [initFr, fget]
  | cons x as ih =>
    intro n t
    simp only [initFr, fget_cons]
    by_cases e : n = t
    · subst e; simp
    · rw [if_neg e, ih (n + 1) t]
      by_cases h : n ≤ t
      · rw [if_pos (by omega), if_pos h, show t - n = (t - (n + 1)) + 1 by omega]
        simp
      · rw [if_neg (by omega), if_neg h]
theorem given_inv {as : List AV} {O : Seg} {us : List Value} {n : Nat} (h : Given c γ w as O us) (hn : as.length ≤ n) :
    Inv c γ { n := n, k := O.length, fr := initFr 0 as, O := O } { tmps := us.toArray ++ Array.replicate (n - us.toArray.size) undef, defers := [] } w := by
  have hg : ∀ t, fget (initFr 0 as) t = (as[t]?).getD .unk := fun t => by rw [fget_init]; simp
  have hno : ∀ t, (fget (initFr 0 as) t).isAl = false := by
    intro t
    rw [hg]
    cases e : as[t]? with
    | none => rfl
    | some y => exact h.no t y e
  refine ⟨h.wd, ⟨h.hp.obj, h.hp.fresh, h.hp.back, h.hp.k⟩, ⟨fun t => ?_, fun t z hm lo len e => ?_, fun t hm i off e => ?_, ?_, rfl⟩⟩
  · show R γ w _ (fget (initFr 0 as) t) _
    rw [hg]
    cases e : as[t]? with
    | none => simp only [Option.getD_none, R]
    | some y =>
      have ht : t < us.length := by
        rw [← h.len]
        by_cases q : t < as.length
        · exact q
        · rw [List.getElem?_eq_none (by omega)] at e; cases e
      have eu : us[t]? = some us[t] := by simp [ht]
      have := h.arg t y _ e eu
      simp only [Option.getD_some]
      have e2 : (us.toArray ++ Array.replicate (n - us.toArray.size) undef).getD t undef = us[t] := by
        rw [Array.getD_eq_getD_getElem?, Array.getElem?_append_left (by simpa using ht)]
        simp [ht]
      rw [e2]
      exact this
  · have := hno t
    have e : fget (initFr 0 as) t = .al z hm lo len := e
    rw [e] at this; cases this
  · have := hno t
    have e : fget (initFr 0 as) t = .ep hm i off := e
    rw [e] at this; cases this
  · have := h.len
    simp
    omega
theorem retOk {fn : Func} {f : Nat} {as : List AV} {O : Seg} {cd : Code} {e : Ex} {st1 st2 : St} {vs vs' : List AV} {O2 : Seg} (EO : EnvOk c.P env) (hf : env.fn f = some fn) (hb : fn.body = some cd) (hn : as.length ≤ fn.ntmps)
    (he : e = .ret ∨ e = .normal) (hc : CodeOk c cd { n := fn.ntmps, k := O.length, fr := initFr 0 as, O := O } e st1) (hr : resAll env st1 fn.results.toList = some (vs, st2)) (ho : outOf vs st2 = some (vs', O2)) : CallOk c f as O (tupOf vs') O2 := by
  intro γ w us hg
  right
  obtain ⟨hfn, hname⟩ := EO.fn f fn hf
  refine ⟨?_, ?_⟩
  · have hname : ¬ fn.name = "runtime.NumGoroutine" := by simpa using hname
    simp [callFunc, hfn, hname, hb]
  · refine calls_of_wp hfn hb (hc γ _ w _ (given_inv hg hn) (fun γ' a' w' hi hx => ?_))
    obtain ⟨γ1, ws, d, l1, l2, h1, run⟩ := resAll_ok EO fn.results.toList 0 hi hr
    obtain ⟨γ2, k1, k2, k3, k4, k5, k6⟩ := out_ok d.inv (us := ws) (by rw [l1, l2]) (fun j y v e1 e2 => by have := h1 j y v e1 e2; rwa [Nat.zero_add] at this) ho
    have hrun := results_run run
    have hkk : st2.k = O.length := by
      have := (hx.trans d.ext).k
      exact this
    rw [hkk] at k2 k3
    have hext : Ext γ { n := 0, k := O.length, fr := [], O := O } w γ2 { n := 0, k := O.length, fr := [], O := O2 } w' := by
      have := (hx.trans d.ext).trans k3
      exact ⟨this.imm, this.ro, this.ro', this.other, this.size, rfl, this.ob⟩
    have hpost : CallPost c γ w O (tupOf vs') O2 (oneOrTup ws) w' := ⟨γ2, k1, k2, hext, k4, k5, k6⟩
    rcases he with rfl | rfl
    · exact ⟨hi.fm.defers, _, hrun, _, rfl, hpost⟩
    · exact ⟨hi.fm.defers, _, hrun, _, rfl, hpost⟩
theorem sound_step (EO : EnvOk c.P env) (hX : ExtOk c env) : ∀ (n : Nat) (t : Task) (r : Res), runN env n t = some r → TaskOk c t r := by
  intro n
  induction n using Nat.strongRecOn with
  | _ n ih =>
    intro t r h
    cases n with
    | zero => cases h
    | succ n =>
      have h : (step env t).run (runN env n) = some r := h
      have hE : ∀ t r, runN env n t = some r → TaskOk c t r := fun t r e => ih n (by omega) t r e
      have hcall : ∀ f as O v O2, runN env n (.call f as O) = some (.ret v O2) → CallOk c f as O v O2 := fun f as O v O2 e => hE _ _ e
      cases t with
      | code f cd st =>
        cases cd with
        | skip =>
          simp only [step, Prog.run_done] at h
          cases h
          intro γ a w Q hi hQ
          exact wp_skip (hQ γ a w hi (.refl ..))
        | region id ops draw =>
          rw [step_region] at h
          have fin : ∀ st1, r = .code .normal (endRegion env.A (env.live f id) st1) → ∀ (γ : Gh) (w : World) (Q : Exit → Act → World → Prop), (∀ γ' a' w', Inv c γ' (endRegion env.A (env.live f id) st1) a' w' → Ext γ st w γ' (endRegion env.A (env.live f id) st1) w' → Q (exitOf .normal) a' w') →
              ∀ γ' a' w', Inv c γ' st1 a' w' → Ext γ st w γ' st1 w' → Q .normal a' w' := by
            intro st1 _ γ w Q hQ γ' a' w' k1 k2
            obtain ⟨γ2, m1, m2⟩ := end_ok EO.A (env.live f id) k1
            exact hQ γ2 a' w' m1 (k2.trans m2)
          cases draw with
          | true =>
            simp only at h
            rw [draw_run] at h
            cases hr : evd env (runN env n) ops st.O.length ops.toList st [] [] with
            | none => rw [hr] at h; cases h
            | some st1 =>
              rw [hr] at h
              simp only [Prog.run_done] at h
              cases h
              intro γ a w Q hi hQ
              refine wp_region_draw (fun t => ?_)
              obtain ⟨st2, e1, e2⟩ := draw_ok hr t
              have hsch : Region.schedule (c.P.follows .mixedOrders) ops t = Region.linearise .any ops t := by
                simp only [Region.schedule, EO.mixed, Bool.true_or, if_true]
              rw [hsch]
              refine region_ok hcall EO _ (drew_inv hi) e1 (fun γ' a' w' k1 k2 => ?_)
              have hw : Weak st1 st2 := ⟨e2.n.symm, e2.k.symm, e2.O.symm, fun t => .inl (e2.fr t).symm⟩
              exact fin st1 rfl γ w Q hQ γ' a' w' (hw.inv k1) ⟨k2.imm, k2.ro, k2.ro', k2.other, k2.size, hw.k.trans k2.k, k2.ob⟩
          | false =>
            simp only at h
            rw [region_run] at h
            cases hr : evr env (runN env n) ops ops.toList st with
            | none => rw [hr] at h; cases h
            | some st1 =>
              rw [hr] at h
              simp only [Prog.run_done] at h
              cases h
              intro γ a w Q hi hQ
              refine wp_region ?_
              exact region_ok hcall EO _ hi (by rw [range_ops]; exact hr) (fin st1 rfl γ w Q hQ)
        | seq x y =>
          rw [step_seq, Prog.run_ask] at h
          cases hx : runN env n (.code f x st) with
          | none => rw [hx] at h; cases h
          | some rx =>
            rw [hx] at h
            have tx := hE _ _ hx
            cases rx with
            | ret v O => exact tx.elim
            | code e st1 =>
              cases e with
              | normal =>
                simp only [run_same] at h
                have ty := hE _ _ h
                cases r with
                | ret v O => exact ty.elim
                | code e st2 =>
                  intro γ a w Q hi hQ
                  refine wp_seq (tx γ a w _ hi (fun γ' a' w' k1 k2 => ?_))
                  exact ty γ' a' w' Q k1 (fun γ2 a2 w2 m1 m2 => hQ γ2 a2 w2 m1 (k2.trans m2))
              | exit j =>
                simp only [Prog.run_done] at h
                cases h
                intro γ a w Q hi hQ
                exact wp_seq (tx γ a w _ hi (fun γ' a' w' k1 k2 => hQ γ' a' w' k1 k2))
              | ret =>
                simp only [Prog.run_done] at h
                cases h
                intro γ a w Q hi hQ
                exact wp_seq (tx γ a w _ hi (fun γ' a' w' k1 k2 => hQ γ' a' w' k1 k2))
        | cond x y z =>
          rw [step_cond] at h
          cases hb : boolOf (opd st x) with
          | none => rw [hb] at h; cases h
          | some b =>
            rw [hb] at h
            cases b with
            | true =>
              simp only [run_same] at h
              have ty := hE _ _ h
              cases r with
              | ret v O => exact ty.elim
              | code e st2 =>
                intro γ a w Q hi hQ
                exact wp_cond_true (opd_bool hi hb) (ty γ a w Q hi hQ)
            | false =>
              simp only [run_same] at h
              have ty := hE _ _ h
              cases r with
              | ret v O => exact ty.elim
              | code e st2 =>
                intro γ a w Q hi hQ
                exact wp_cond_false (opd_bool hi hb) (ty γ a w Q hi hQ)
        | block id x =>
          rw [step_block, Prog.run_ask] at h
          cases hx : runN env n (.code f x st) with
          | none => rw [hx] at h; cases h
          | some rx =>
            rw [hx] at h
            have tx := hE _ _ hx
            cases rx with
            | ret v O => exact tx.elim
            | code e st1 =>
              cases e with
              | normal =>
                simp only [Prog.run_done] at h
                cases h
                intro γ a w Q hi hQ
                exact wp_block (tx γ a w _ hi (fun γ' a' w' k1 k2 => hQ γ' a' w' k1 k2))
              | ret =>
                simp only [Prog.run_done] at h
                cases h
                intro γ a w Q hi hQ
                exact wp_block (tx γ a w _ hi (fun γ' a' w' k1 k2 => hQ γ' a' w' k1 k2))
              | exit j =>
                simp only [Prog.run_done] at h
                cases h
                intro γ a w Q hi hQ
                refine wp_block (tx γ a w _ hi (fun γ' a' w' k1 k2 => ?_))
                have hq := hQ γ' a' w' k1 k2
                cases hj : Nat.beq j id with
                | true =>
                  rw [hj] at hq
                  have := beq_t hj
                  subst this
                  simp only [exitOf, Exit.inBlock, if_true]
                  exact hq
                | false =>
                  rw [hj] at hq
                  have hne : j ≠ id := by rintro rfl; rw [Nat.beq_refl] at hj; cases hj
                  simp only [exitOf, Exit.inBlock, if_neg hne]
                  exact hq
        | loop x =>
          -- rounds, by fuel
          have key : ∀ (m : Nat), m ≤ n + 1 → ∀ st r, runN env m (.code f (.loop x) st) = some r → ∃ e st1, r = .code e st1 := by
            intro m
            induction m using Nat.strongRecOn with
            | _ m ihm =>
              intro hm st r h
              cases m with
              | zero => cases h
              | succ m =>
                have h : (step env (.code f (.loop x) st)).run (runN env m) = some r := h
                rw [step_loop, Prog.run_ask] at h
                cases hx : runN env m (.code f x st) with
                | none => rw [hx] at h; cases h
                | some rx =>
                  rw [hx] at h
                  have tx := ih m (by omega) _ _ hx
                  cases rx with
                  | ret v O => exact tx.elim
                  | code e st1 =>
                    cases e with
                    | normal =>
                      simp only [run_same] at h
                      exact ihm m (by omega) (by omega) st1 r h
                    | exit j => simp only [Prog.run_done] at h; cases h; exact ⟨_, _, rfl⟩
                    | ret => simp only [Prog.run_done] at h; cases h; exact ⟨_, _, rfl⟩
          obtain ⟨e, st2, rfl⟩ := key (n + 1) (Nat.le_refl _) st r h
          intro γ a w Q hi hQ
          refine wp_loop_ghost (fun m a' w' => ∃ γ' st', Inv c γ' st' a' w' ∧ Ext γ st w γ' st' w' ∧ m ≤ n + 1 ∧ runN env m (.code f (.loop x) st') = some (.code e st2)) (n + 1) ⟨γ, st, hi, .refl .., Nat.le_refl _, h⟩ ?_
          rintro m a' w' ⟨γ', st', k1, k2, k3, k4⟩
          cases m with
          | zero => cases k4
          | succ m =>
            have k4 : (step env (.code f (.loop x) st')).run (runN env m) = some (.code e st2) := k4
            rw [step_loop, Prog.run_ask] at k4
            cases hx : runN env m (.code f x st') with
            | none => rw [hx] at k4; cases k4
            | some rx =>
              rw [hx] at k4
              have tx := ih m (by omega) _ _ hx
              cases rx with
              | ret v O => exact tx.elim
              | code e1 st1 =>
                cases e1 with
                | normal =>
                  simp only [run_same] at k4
                  refine tx γ' a' w' _ k1 (fun γ2 a2 w2 m1 m2 => ?_)
                  exact ⟨m, by omega, γ2, st1, m1, k2.trans m2, by omega, k4⟩
                | exit j =>
                  simp only [Prog.run_done] at k4
                  cases k4
                  exact tx γ' a' w' _ k1 (fun γ2 a2 w2 m1 m2 => hQ γ2 a2 w2 m1 (k2.trans m2))
                | ret =>
                  simp only [Prog.run_done] at k4
                  cases k4
                  exact tx γ' a' w' _ k1 (fun γ2 a2 w2 m1 m2 => hQ γ2 a2 w2 m1 (k2.trans m2))
        | exit id =>
          simp only [step, Prog.run_done] at h
          cases h
          intro γ a w Q hi hQ
          exact wp_exit (hQ γ a w hi (.refl ..))
        | ret =>
          simp only [step, Prog.run_done] at h
          cases h
          intro γ a w Q hi hQ
          exact wp_ret (hQ γ a w hi (.refl ..))
        | _ => simp only [step, Prog.run_done] at h; cases h
      | call f as O =>
        simp only [step] at h
        cases hx : env.ext f with
        | some e =>
          rw [hx] at h
          exact hX f e hx (runN env n) hE as O r h
        | none =>
          rw [hx] at h
          simp only at h
          cases hf : env.fn f with
          | none => rw [hf] at h; cases h
          | some fn =>
            rw [hf] at h
            simp only at h
            cases hb : fn.body with
            | none => rw [hb] at h; cases h
            | some cd =>
              rw [hb] at h
              simp only at h
              cases hn : Nat.ble as.length fn.ntmps with
              | false => rw [hn] at h; rw [if_pos rfl] at h; cases h
              | true =>
                rw [hn] at h
                rw [if_neg (by simp), Prog.run_ask] at h
                cases hc : runN env n (.code f cd { n := fn.ntmps, k := O.length, fr := initFr 0 as, O := O }) with
                | none => rw [hc] at h; cases h
                | some rc =>
                  rw [hc] at h
                  have tc := hE _ _ hc
                  cases rc with
                  | ret v O => exact tc.elim
                  | code e st1 =>
                    have go : ∀ (he : e = .ret ∨ e = .normal), (match resAll env st1 fn.results.toList with
                        | some (vs, st) => match outOf vs st with
                          | some (vs, O) => Prog.done (some (.ret (tupOf vs) O))
                          | none => .done none
                        | none => .done none).run (runN env n) = some r → TaskOk c (.call f as O) r := by
                      intro he h
                      cases hra : resAll env st1 fn.results.toList with
                      | none => rw [hra] at h; cases h
                      | some q =>
                        obtain ⟨vs, st2⟩ := q
                        rw [hra] at h
                        simp only at h
                        cases hout : outOf vs st2 with
                        | none => rw [hout] at h; cases h
                        | some q =>
                          obtain ⟨vs', O2⟩ := q
                          rw [hout] at h
                          simp only [Prog.run_done] at h
                          cases h
                          exact retOk EO hf hb (ble_t hn) he tc hra hout
                    cases e with
                    | ret => exact go (.inl rfl) h
                    | normal => exact go (.inr rfl) h
                    | exit j => cases h
/-- What the evaluator says of a call is so. -/
theorem sound (EO : EnvOk c.P env) (hX : ExtOk c env) {f : Nat} {as : List AV} {O : Seg} {v : AV} {O2 : Seg} (h : evl env (.call f as O) = some (.ret v O2)) : CallOk c f as O v O2 := by
  obtain ⟨n, hn⟩ := of_evl h
  exact sound_step EO hX n _ _ hn
end
end Go.Va
set_option linter.unusedVariables false
namespace Go.Va
inductive Tr (α : Type) where
  | leaf
  | node (k : Nat) (v : α) (l r : Tr α)
def Tr.get {α : Type} : Tr α → Nat → Option α
  | .leaf, _ => none
  | .node k v l r, n => bif Nat.beq n k then some v else (bif Nat.blt n k then l.get n else r.get n)
def Tr.Forall {α : Type} (p : Nat → α → Prop) : Tr α → Prop
  | .leaf => True
  | .node k v l r => p k v ∧ l.Forall p ∧ r.Forall p
theorem Tr.get_of {α : Type} {p : Nat → α → Prop} : ∀ {t : Tr α} {n : Nat} {v : α}, t.Forall p → t.get n = some v → p n v
  | .leaf, n, v, _, h => by cases h
  | .node k u l r, n, v, hp, h => by
    simp only [Tr.get] at h
    simp only [Tr.Forall] at hp
    cases hb : Nat.beq n k with
    | true =>
      rw [hb] at h
      cases h
      rw [beq_t hb]
      exact hp.1
    | false =>
      rw [hb] at h
      simp only [cond_false] at h
      cases hc : Nat.blt n k with
      | true => rw [hc] at h; exact Tr.get_of hp.2.1 h
      | false => rw [hc] at h; exact Tr.get_of hp.2.2 h
def Tr.all {α : Type} (p : Nat → α → Bool) : Tr α → Bool
  | .leaf => true
  | .node k v l r => p k v && l.all p && r.all p
theorem Tr.all_get {α : Type} {p : Nat → α → Bool} : ∀ {t : Tr α} {n : Nat} {v : α}, t.all p = true → t.get n = some v → p n v = true := by
  have key : ∀ {t : Tr α}, t.all p = true → t.Forall (fun n v => p n v = true) := by
    intro t
    induction t with
    | leaf => intro _; trivial
    | node k v l r ih1 ih2 =>
      intro h
      simp only [Tr.all, Bool.and_eq_true] at h
      exact ⟨h.1.1, ih1 h.1.2, ih2 h.2⟩
  intro t n v h e
  exact Tr.get_of (key h) e
def getL (t : Tr (List Nat)) (n : Nat) : List Nat := match t.get n with
  | some l => l
  | none => []
end Go.Va
set_option linter.unusedVariables false
namespace Go.Va
def okR (v : AV) (O : Seg) : Prog := .done (some (.ret v O))
def noR : Prog := .done none
/-- the same, if what is left may be left -/
def okS (v : AV) (O : Seg) : Prog := bif allSegOk O then okR v O else noR
def cellOf (O : Seg) (i off : Nat) : Option AV := match lget O i with
  | some o => lget o off
  | none => none
def cellSet (O : Seg) (i off : Nat) (v : AV) : Seg := match lget O i with
  | some o => lset O i (lset o off v)
  | none => O
def xAddInt64 (args : List AV) (O : Seg) : Prog := match args with
  | [.ptr i off, .s (.int .i64 d)] => match cellOf O i off with
    | some (.s (.int .i64 n)) => okS (.s (.int .i64 (IntKind.i64.wrap (n + d)))) (cellSet O i off (.s (.int .i64 (IntKind.i64.wrap (n + d)))))
    | _ => noR
  | _ => noR
def xLoadInt64 (args : List AV) (O : Seg) : Prog := match args with
  | [.ptr i off] => match cellOf O i off with
    | some (.s (.int .i64 n)) => okS (.s (.int .i64 n)) O
    | _ => noR
  | [.rp _ (.s (.int .i64 n) :: _)] => okS (.s (.int .i64 n)) O
  | _ => noR
def xStoreInt64 (args : List AV) (O : Seg) : Prog := match args with
  | [.ptr i off, .s (.int .i64 d)] => match cellOf O i off with
    | some (.s (.int .i64 n)) => okS (.tup []) (cellSet O i off (.s (.int .i64 d)))
    | _ => noR
  | _ => noR
def xCopyCheck (args : List AV) (O : Seg) : Prog := match args with
  | [.ptr i off] => match cellOf O i off with
    | some (.s (.pointer none)) => okS (.tup []) (cellSet O i off (.ptr i off))
    | some (.ptr j o) => bif Nat.beq i j && Nat.beq o off then okS (.tup []) O else noR
    | _ => noR
  | _ => noR
def xBuilderString (args : List AV) (O : Seg) : Prog := match args with
  | [.ptr i off] => match cellOf O i (off + 1) with
    | some (.sl _ xs _) => match bytesOf xs with
      | some bs => okR (.s (.string ⟨bs.toArray⟩)) O
      | none => noR
    | _ => noR
  | _ => noR
def idxByte (l : List UInt8) (c : UInt8) : Int := match l.findIdx? (· == c) with
  | some i => (i : Int)
  | none => -1
def xIndexByteString (args : List AV) (O : Seg) : Prog := match args, O with
  | [.s (.string s), .s (.int .u8 c)], [] => okR (.s (.int .i64 (idxByte s.data.toList (UInt8.ofNat c.toNat)))) []
  | _, _ => noR
/-- slices.Delete -/
def xDelete (args : List AV) (O : Seg) : Prog := match args with
  | [.sl z xs .full, .s (.int .i64 (.ofNat i)), .s (.int .i64 (.ofNat j))] => bif Nat.ble i j && Nat.ble j xs.length then okR (.sl z (xs.take i ++ xs.drop j) .full) O else noR
  | _ => noR
/-- slices.Insert of one element -/
def xInsert (args : List AV) (O : Seg) : Prog := match args with
  | [.sl z xs .full, .s (.int .i64 (.ofNat i)), .sl _ ys _] => bif Nat.ble i xs.length then okR (.sl z (xs.take i ++ ys ++ xs.drop i) .full) O else noR
  | _ => noR
/-- slices.Clone -/
def xClone (args : List AV) (O : Seg) : Prog := match args with
  | [.sl z xs _] => okS (.sl z xs .full) O
  | _ => noR
/-! valid.Check, plainly -/
structure Chk where
  l : List (List ByteArray × Bool)
  ahead : Int
  names : List ByteArray
def insOf : AV → Option (Int × ByteArray × ByteArray)
  | .agg [.s (.int .i64 o), .s (.string a), .s (.string b)] => some (o, a, b)
  | _ => none
def insL : List AV → Option (List (Int × ByteArray × ByteArray))
  | [] => some []
  | x :: xs => match insOf x, insL xs with
    | some y, some ys => some (y :: ys)
    | _, _ => none
def hasB (x : ByteArray) (l : List ByteArray) : Bool := l.any fun y => y.data.toList == x.data.toList
def nameB (s : ByteArray) : Bool := match s.data.toList with
  | [] => false
  | c :: l => decide (l.length < 12) && (97 ≤ c && c ≤ 122) && l.all fun c => (97 ≤ c && c ≤ 122) || (48 ≤ c && c ≤ 57) || c == 45
def textB (s : ByteArray) : Bool := decide (s.size ≤ 60) && s.data.toList.all fun c => 32 ≤ c && c ≤ 126
def voidB (s : ByteArray) : Bool := s.data.toList == [98, 114] || s.data.toList == [104, 114] || s.data.toList == [105, 109, 103] || s.data.toList == [105, 110, 112, 117, 116]
def mayB (i : Int × ByteArray × ByteArray) : Bool :=
  if i.1 = 1 then nameB i.2.1 && !voidB i.2.1 && textB i.2.2
  else if i.1 = 3 then voidB i.2.1 && textB i.2.2
  else if i.1 = 4 then textB i.2.1 && i.2.2.size == 0
  else if i.1 = 5 ∨ i.1 = 6 then nameB i.2.1 && textB i.2.2
  else if i.1 = 2 ∨ i.1 = 7 ∨ i.1 = 8 then i.2.1.size == 0 && i.2.2.size == 0
  else false
def chkOne (c : Chk) (i : Int × ByteArray × ByteArray) : Int × Chk :=
  if !mayB i then (7, c)
  else if i.1 = 5 ∨ i.1 = 6 then
    (if !(c.ahead = 1 ∨ c.ahead = 3 ∨ c.ahead = 5 ∨ c.ahead = 6) ∨ hasB i.2.1 c.names ∨ 8 ≤ c.names.length then (9, c) else (0, { c with ahead := i.1, names := i.2.1 :: c.names }))
  else if i.1 = 2 then (match c.l with
    | _ :: p :: l => (0, { c with l := p :: l, ahead := i.1 })
    | _ => (8, c))
  else match c.l with
    | [] => (8, c)
    | (keys, all) :: l =>
      if all then (11, c)
      else if (i.1 = 1 ∨ i.1 = 3) ∧ i.2.2.size ≠ 0 ∧ hasB i.2.2 keys then (10, c)
      else if i.1 = 1 ∧ 8 < l.length + 1 then (12, c)
      else
        let at_ : List ByteArray × Bool := (if i.1 = 1 ∨ i.1 = 3 then (if hasB i.2.2 keys then keys else i.2.2 :: keys) else keys, i.1 = 7)
        (0, { l := if i.1 = 1 then ([], false) :: at_ :: l else at_ :: l, ahead := i.1, names := if i.1 = 1 ∨ i.1 = 3 then [] else c.names })
def chkAll (c : Chk) : List (Int × ByteArray × ByteArray) → Int
  | [] => if 1 < c.l.length then 8 else 0
  | i :: is => match chkOne c i with
    | (0, c) => chkAll c is
    | (e, _) => e
def insChk (l : List (Int × ByteArray × ByteArray)) : Int := if 120 < l.length then 13 else chkAll ⟨[([], false)], 0, []⟩ l
def codeV (T : Nat) (n : Int) : AV := if n = 0 then .s .nilIface else .s (.iface T (.int .i64 n))
def xCheck (T : Nat) (args : List AV) (O : Seg) : Prog := match args with
  | [.sl _ xs _] => match insL xs with
    | some l => okR (codeV T (insChk l)) O
    | none => noR
  | _ => noR
def xOnceDo (args : List AV) (O : Seg) : Prog := match args with
  | [.ptr i off, .fn f a b] => match cellOf O i off with
    | some (.s (.int k 0)) => .ask (.call f (a ++ b) O) fun
      | .ret _ O2 => okR (.tup []) (cellSet O2 i off (.s (.int k 1)))
      | _ => noR
    | some (.s (.int _ 1)) => okR (.tup []) O
    | _ => noR
  | _ => noR
end Go.Va

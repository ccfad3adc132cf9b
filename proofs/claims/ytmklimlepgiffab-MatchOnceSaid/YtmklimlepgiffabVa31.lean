/- The verified abstract interpreter, a part of it: no statement of its own. -/
import Derived.Test.YtmklimlepgiffabVa30
import Derived.Deep.LoopGhost
set_option linter.unusedVariables false
set_option linter.unusedSimpArgs false
set_option linter.unusedVariables false
namespace Go.Va
section
variable {c : Cx} {γ : Gh} {st : St} {a : Act} {w : World} {o : Oper} {env : Env} {i : Nat} {ops : Array Oper}
theorem tmps_some {a : Act} {t : Nat} {v : Value} (h : a.tmps.getD t undef = v) (hv : v ≠ undef) : a.tmps[t]? = some v := by
  rw [Array.getD_eq_getD_getElem?] at h
  cases ht : a.tmps[t]? with
  | none => rw [ht] at h; exact (hv h.symm).elim
  | some u => rw [ht] at h; simp at h; rw [h]
theorem guard_ok (hi : Inv c γ st a w) {b : Bool} (h : guardOf ops st o = some b) : Region.wanted o (yielded ops a.tmps) = b := by
  unfold guardOf at h
  unfold Region.wanted
  cases hg : o.guard with
  | none => rw [hg] at h; cases h; rfl
  | some p =>
    obtain ⟨j, want⟩ := p
    rw [hg] at h
    simp only [lget_eq, Array.getElem?_toList] at h ⊢
    unfold yielded
    cases hj : ops[j]? with
    | none => rw [hj] at h; cases h
    | some p =>
      rw [hj] at h
      simp only at h
      cases hd : p.dst with
      | none => rw [hd] at h; cases h
      | some t =>
        rw [hd] at h
        simp only at h
        simp only [Option.bind_some, hd]
        have hv := hi.fm.val t
        split at h
        · rename_i b' hx
          rw [hx] at hv
          simp only [R] at hv
          have := tmps_some hv.1 (by simp [undef])
          rw [this]
          simp only [Option.some.injEq] at h
          subst h
          cases b' <;> cases want <;> rfl
        · rename_i hx
          rw [hx] at hv
          simp only [R, Rl] at hv
          obtain ⟨cs, e1, e2⟩ := hv
          have : cs = #[] := by apply Array.ext'; simpa using e2
          subst this
          cases h
          rw [Array.getD_eq_getD_getElem?] at e1
          cases ht : a.tmps[t]? with
          | none => simp
          | some u =>
            rw [ht] at e1
            simp at e1
            rw [e1]
            simp
        · cases h
theorem isCall_none {op : Op} {env : Env} {o : Oper} (ho : o.op = op) : isCall op = none ∨ ∃ cc ce, op = .call cc ∧ cc.callee = ce ∧ isCall op = some (ce, cc.args.toList) := by
  cases op with
  | call cc =>
    cases hc : cc.callee with
    | builtin b => left; simp [isCall, hc]
    | value f => right; exact ⟨cc, _, rfl, hc, by simp [isCall, hc]⟩
    | invoke r m => right; exact ⟨cc, _, rfl, hc, by simp [isCall, hc]⟩
  | _ => left; rfl
theorem region_ok {E : Task → Option Res} (hE : ∀ f as O v O2, E (.call f as O) = some (.ret v O2) → CallOk c f as O v O2) (EO : EnvOk c.P env) {Q : Exit → Act → World → Prop} :
    ∀ (l : List Nat) {γ : Gh} {st st1 : St} {a : Act} {w : World}, Inv c γ st a w → evr env E ops (l.filterMap (fun i => ops[i]?)) st = some st1 →
      (∀ γ' a' w', Inv c γ' st1 a' w' → Ext γ st w γ' st1 w' → Q .normal a' w') → wpOps c.P ops Q l a w
  | [], γ, st, st1, a, w, hi, h, hQ => by
    simp only [List.filterMap_nil, evr] at h
    cases h
    exact hQ γ a w hi (.refl ..)
  | i :: l, γ, st, st1, a, w, hi, h, hQ => by
    simp only [wpOps]
    cases ho : ops[i]? with
    | none =>
      rw [List.filterMap_cons_none ho] at h
      exact region_ok hE EO l hi h hQ
    | some o =>
      rw [List.filterMap_cons_some ho] at h
      simp only [evr] at h
      simp only
      cases hg : guardOf ops st o with
      | none => rw [hg] at h; cases h
      | some b =>
        rw [hg] at h
        rw [guard_ok hi hg]
        cases b with
        | false =>
          simp only [Bool.false_eq_true, if_false]
          simp only at h
          obtain ⟨γ1, h1, h2⟩ := put_flow (x := .tup []) (v := undef) (k := 0) o.dst hi (.free (by simp only [R, Rl]; exact ⟨#[], rfl, rfl⟩) (by simp) (by simp))
          exact region_ok hE EO l h1 h (fun γ' a' w' k1 k2 => hQ γ' a' w' k1 (h2.trans k2))
        | true =>
          simp only [if_true]
          simp only at h
          left
          cases hc : isCall o.op with
          | none =>
            rw [hc] at h
            simp only at h
            cases hs : stepOp env st o with
            | none => rw [hs] at h; cases h
            | some st2 =>
              rw [hs] at h
              simp only at h
              obtain ⟨n, v, w1, γ1, h1, h2, h3, h4⟩ := step_ok EO hi hs
              unfold Oper.wp
              rw [h1]
              have := region_ok hE EO l h3 h (fun γ' a' w' k1 k2 => hQ γ' a' w' k1 (h4.trans k2))
              rcases h2 with rfl | ⟨rfl, rfl⟩
              · rw [Oper.upon_value]; exact this
              · rw [Oper.upon_skip]; exact this
          | some r =>
            obtain ⟨ce, args⟩ := r
            rw [hc] at h
            simp only at h
            cases hce : calleeOf st ce with
            | none => rw [hce] at h; cases h
            | some r =>
              obtain ⟨f, q1, q2⟩ := r
              rw [hce] at h
              simp only at h
              cases hco : callOf env st ce f args with
              | none => rw [hco] at h; cases h
              | some r =>
                obtain ⟨m, as, O, st0⟩ := r
                rw [hco] at h
                simp only at h
                cases hr : E (.call f as O) with
                | none => rw [hr] at h; cases h
                | some r =>
                  rw [hr] at h
                  cases r with
                  | code e st => cases h
                  | ret v O2 =>
                    simp only at h
                    cases hac : afterCall m st0 v O2 with
                    | none => rw [hac] at h; cases h
                    | some r =>
                      obtain ⟨y, st2⟩ := r
                      rw [hac] at h
                      simp only at h
                      obtain ⟨x, fa, ca, γe, e1, e2, e3, e4⟩ := callOf_ok EO.A hi hco
                      have hcall := hE f as O v O2 hr γe w _ e3
                      -- the operation
                      obtain ⟨cc, hop, hcl, hargs⟩ : ∃ cc, o.op = .call cc ∧ cc.callee = .value x ∧ cc.args.toList = args := by
                        rcases isCall_none (env := env) (o := o) rfl with k | ⟨cc, ce', k1, k2, k3⟩
                        · rw [hc] at k; cases k
                        · rw [hc] at k3
                          injection k3 with k3
                          injection k3 with k4 k5
                          exact ⟨cc, k1, by rw [k2, ← k4, e1], k5.symm⟩
                      have hus : (fa.toList ++ args.map a.eval ++ ca.toList).toArray = fa ++ cc.args.map a.eval ++ ca := by
                        rw [← hargs]
                        apply Array.ext'
                        simp
                      have hrun : (execOp a.eval o).run c.P w = (callFunc f (fa.toList ++ args.map a.eval ++ ca.toList).toArray).run c.P w := by
                        rw [hus]
                        simp [execOp, hop, resolve, hcl, Deferred.ofValue, e2, invoke]
                      have next : ∀ r w', CallPost c γe w O v O2 r w' → wpOps c.P ops Q l (a.put o.dst r) w' := by
                        intro r w' hp
                        obtain ⟨γ1, k1, k2, k3⟩ := e4 v O2 y st2 hac r w' hp
                        obtain ⟨γ2, k4, k5⟩ := put_flow o.dst k1 k3
                        exact region_ok hE EO l k4 h (fun γ' a' w' m1 m2 => hQ γ' a' w' m1 ((k2.trans k5).trans m2))
                      unfold Oper.wp
                      rw [hrun]
                      rcases hcall with ⟨r, w', k1, k2⟩ | ⟨k1, k2⟩
                      · rw [k1, Oper.upon_value]
                        exact next r w' k2
                      · rw [k1, Oper.upon_enter]
                        refine k2.mono fun e w' he => ?_
                        obtain ⟨r, rfl, hp⟩ := he
                        exact next r w' hp
theorem range_ops (ops : Array Oper) : (List.range ops.size).filterMap (fun i => ops[i]?) = ops.toList := by
  have : ∀ (k : Nat), k ≤ ops.size → (List.range k).filterMap (fun i => ops[i]?) = ops.toList.take k := by
    intro k
    induction k with
    | zero => intro _; simp
    | succ k ih =>
      intro hk
      rw [List.range_succ, List.filterMap_append, ih (by omega), List.take_add_one]
      congr 1
      have hk' : k < ops.size := by omega
      simp [hk']
  rw [this ops.size (Nat.le_refl _), List.take_of_length_le (by simp)]
end
end Go.Va

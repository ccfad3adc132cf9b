/- The verified abstract interpreter, a part of it: no statement of its own. -/
import Derived.Test.YtmklimlepgiffabVa35
import Derived.ChangeShapes
import Derived.RowKit
import Derived.SizedLaws
set_option linter.unusedVariables false
set_option linter.unusedSimpArgs false
set_option linter.unusedVariables false
namespace Go.Va
section
variable {H : Type} {enc : TypeId × Value → H} {P : Program} {W W' : World}
/-- an argument of a plain type -/
def ArgWf (P : Program) (t : Nat) (y : AV) : Prop := Wf P t y.cells ∧ ((∃ fs, P.underlying t = some (.struct fs)) ↔ ∃ zs, y = .agg zs)
theorem arg_ok {T : List Nat} (hT : closT P T = true) (hF : fullT P T = true) (hsame : ∀ b, b < W.heap.size → W'.heap[b]? = W.heap[b]?) {t : Nat} (ht : t ∈ T) {v : Value} {d : DataW H} {ps : List MemPlace}
    (h : DataW.Trod enc P W 0 (fun _ => true) true t v d ps) {r : Reach} {base : Nat} (hok : Value.okWide P W r base t v) :
    ∃ y, ArgWf P t y ∧ y.isAl = false ∧ (∀ l, R (Gh.start W) W l y v) ∧ DataW.Trod enc P W' 0 (fun b => decide (b < W.heap.size)) true t v d ps := by
  obtain ⟨n, hn⟩ := h
  obtain ⟨⟨xs, h1, h2, h3⟩, h4⟩ := trod_plain hT hF hsame n t _ _ ht hn
  have hc := closT_get hT ht
  have hf := List.all_eq_true.1 hF t ht
  obtain ⟨hrl, hones⟩ := Vl_rl (γ := Gh.start W) (w := W) (l := lim 0) _ _ 0 (Dl_Vl _ _ h2)
  by_cases hs : ∃ fs, P.underlying t = some (.struct fs)
  · obtain ⟨fs, hu⟩ := hs
    unfold Value.okWide at hok
    rw [hu] at hok
    obtain ⟨cs, rfl, _⟩ := hok
    refine ⟨.agg xs, ⟨h1, fun _ => ⟨_, rfl⟩, fun _ => ⟨fs, hu⟩⟩, rfl, fun l => ?_, n, h4⟩
    simp only [R]
    exact ⟨cs, rfl, hones, (Vl_rl (γ := Gh.start W) (w := W) (l := l) _ _ 0 (Dl_Vl _ _ h2)).1⟩
  · have hone : one v := by
      unfold Value.okWide at hok
      cases hu : P.underlying t with
      | none => rw [hu] at hc; cases hc
      | some d =>
        rw [hu] at hok hc
        have key : ∀ v : Value, (v.cells.size ≠ 1 ∨ ¬ one v) → one v ∨ ¬ Cell.okWide P W r base t v ∨ ∃ fs, d = .struct fs := by
          intro v hv
          cases v with
          | agg cs =>
            right
            cases d with
            | struct fs => exact .inr ⟨fs, rfl⟩
            | bool => left; intro k; unfold Cell.okWide at k; rw [hu] at k; simp only [Cell.ok, hu] at k
            | int q => left; intro k; unfold Cell.okWide at k; rw [hu] at k; simp only [Cell.ok, hu] at k
            | string => left; intro k; unfold Cell.okWide at k; rw [hu] at k; simp only [Cell.ok, hu] at k
            | slice e => left; intro k; unfold Cell.okWide at k; rw [hu] at k; simp only [Cell.ok, hu] at k
            | _ => cases hc
          | tuple cs =>
            right
            cases d with
            | struct fs => exact .inr ⟨fs, rfl⟩
            | bool => left; intro k; unfold Cell.okWide at k; rw [hu] at k; simp only [Cell.ok, hu] at k
            | int q => left; intro k; unfold Cell.okWide at k; rw [hu] at k; simp only [Cell.ok, hu] at k
            | string => left; intro k; unfold Cell.okWide at k; rw [hu] at k; simp only [Cell.ok, hu] at k
            | slice e => left; intro k; unfold Cell.okWide at k; rw [hu] at k; simp only [Cell.ok, hu] at k
            | _ => cases hc
          | _ => exact .inl trivial
        by_cases h1 : one v
        · exact h1
        · rcases key v (.inr h1) with k | k | ⟨fs, rfl⟩
          · exact k
          · exfalso
            cases d with
            | struct fs => exact hs ⟨fs, hu⟩
            | bool => exact k hok
            | int q => exact k hok
            | string => exact k hok
            | slice e => exact k hok
            | _ => cases hc
          · exact (hs ⟨fs, hu⟩).elim
    have hv : v.cells = #[v] := by cases v <;> first | rfl | cases hone
    rw [hv] at h2
    match xs, h1, h2 with
    | [], _, h2 => simp [Dl] at h2
    | x :: xs, h1, h2 =>
      simp only [Dl] at h2
      obtain ⟨u, us, e, q1, q2, q3⟩ := h2
      simp only [List.cons.injEq] at e
      obtain ⟨rfl, rfl⟩ := e
      have hx : xs = [] := by
        have := Dl_lenV q3
        exact List.eq_nil_of_length_eq_zero (by simpa using this.symm)
      subst hx
      have hxc : x.cells = [x] := by cases x <;> first | rfl | cases q1
      refine ⟨x, ⟨by rw [hxc]; exact h1, fun k => (hs k).elim, ?_⟩, ?_, fun l => (V_R (D_V q1 q2)).1, n, h4⟩
      · rintro ⟨zs, rfl⟩
        cases q1
      · exact (V_R (γ := Gh.start W) (w := W) (l := lim 0) (D_V q1 q2)).2.1
theorem args_ok {T : List Nat} (hT : closT P T = true) (hF : fullT P T = true) (hsame : ∀ b, b < W.heap.size → W'.heap[b]? = W.heap[b]?) {r : Reach} {base : Nat} :
    ∀ (ts : List Nat) (vs : List Value) (ds : List (DataW H)) (ps : List MemPlace), (∀ t ∈ ts, t ∈ T) → DataW.TrodAll enc P W 0 (fun _ => true) true ts vs ds ps → (∀ (j : Nat) (t : TypeId) (v : Value), ts[j]? = some t → vs[j]? = some v → Value.okWide P W r base t v) →
      ∃ as : List AV, as.length = vs.length ∧ (∀ (j : Nat) (t : Nat) (y : AV), ts[j]? = some t → as[j]? = some y → ArgWf P t y) ∧ (∀ (j : Nat) (y : AV), as[j]? = some y → y.isAl = false) ∧ (∀ (j : Nat) (y : AV) (v : Value), as[j]? = some y → vs[j]? = some v → ∀ l, R (Gh.start W) W l y v) ∧
        DataW.TrodAll enc P W' 0 (fun b => decide (b < W.heap.size)) true ts vs ds ps ∧ ts.length = vs.length ∧ ds.length = vs.length
  | [], [], [], ps, _, h, _ => ⟨[], rfl, by simp, by simp, by simp, h, rfl, rfl⟩
  | t :: ts, v :: vs, d :: ds, ps, hm, h, hok => by
    obtain ⟨p, q, h1, h2, h3⟩ := h
    obtain ⟨y, k1, k2, k3, k4⟩ := arg_ok hT hF hsame (hm t (by simp)) h1 (hok 0 t v rfl rfl)
    obtain ⟨as, m1, m2, m3, m4, m5, m6, m7⟩ := args_ok hT hF hsame ts vs ds q (fun u hu => hm u (by simp [hu])) h2 (fun j u w e1 e2 => hok (j + 1) u w (by simpa using e1) (by simpa using e2))
    refine ⟨y :: as, by simp [m1], fun j t' y' e1 e2 => ?_, fun j y' e => ?_, fun j y' v' e1 e2 => ?_, ⟨p, q, k4, m5, h3⟩, by simp [m6], by simp [m7]⟩
    · cases j with
      | zero => simp at e1 e2; subst e1 e2; exact k1
      | succ j => exact m2 j t' y' (by simpa using e1) (by simpa using e2)
    · cases j with
      | zero => simp at e; subst e; exact k2
      | succ j => exact m3 j y' (by simpa using e)
    · cases j with
      | zero => simp at e1 e2; subst e1 e2; exact k3
      | succ j => exact m4 j y' v' (by simpa using e1) (by simpa using e2)
  | [], [], _ :: _, _, _, h, _ => by exact h.elim
  | [], _ :: _, _, _, _, h, _ => by cases ‹List (DataW H)› <;> exact h.elim
  | _ :: _, [], _, _, _, h, _ => by cases ‹List (DataW H)› <;> exact h.elim
  | _ :: _, _ :: _, [], _, _, h, _ => by exact h.elim
theorem start_wd : Wd { P := P, w0 := W } (Gh.start W) W := by
  refine ⟨fun b o e => ?_, fun b hb => ⟨W.heap[b], by simp [show b < W.heap.size from hb], start_imm (by simp [show b < W.heap.size from hb])⟩, fun b hb => ?_, Nat.le_refl _, rfl, rfl, rfl⟩
  · simp only [Gh.start] at e
    cases hb : W.heap[b]? with
    | none => rw [hb] at e; rcases e with e | e <;> cases e
    | some o' =>
      rw [hb] at e
      rcases e with e | e
      · cases e; rfl
      · cases e
  · simp only [Gh.start]
    rw [Array.getElem?_eq_none hb]
/-- A law that comes to true, of whatever arguments: its call does, and nothing has changed that was there. -/
theorem law_calls {env : Env} (EO : EnvOk P env) (hX : ExtOk { P := P, w0 := W } env) {f : FuncId} {fn : Func} {cd : Code} (hf : env.fn f = some fn) (hb : fn.body = some cd)
    {as : List AV} {vs : List Value} (h : evl env (.call f as []) = some (.ret (.s (.bool true)) [])) (hl : as.length = vs.length) (hno : ∀ (j : Nat) (y : AV), as[j]? = some y → y.isAl = false)
    (hr : ∀ (j : Nat) (y : AV) (v : Value), as[j]? = some y → vs[j]? = some v → ∀ l, R (Gh.start W) W l y v) :
    Calls P f vs.toArray W fun e W' => e = .returned (.bool true) ∧ RowKit.Below W.heap.size W W' := by
  have hc : CallOk { P := P, w0 := W } f as [] (.s (.bool true)) [] := sound EO hX h
  have hg : Given { P := P, w0 := W } (Gh.start W) W as [] vs :=
    ⟨start_wd, ⟨fun i o e => (by simp [objAt, lget] at e), fun _ _ => rfl, fun i b e => (by cases e), Nat.le_refl _⟩, hl, fun j y u e1 e2 => hr j y u e1 e2 _, hno⟩
  obtain ⟨hfn, hname⟩ := EO.fn f fn hf
  have hname : ¬ fn.name = "runtime.NumGoroutine" := by simpa using hname
  rcases hc (Gh.start W) W vs hg with ⟨r, w', k1, _⟩ | ⟨_, k2⟩
  · simp [callFunc, hfn, hname, hb] at k1
  · refine k2.mono fun e W' he => ?_
    obtain ⟨r, rfl, γ', m1, m2, m3, m4, m5, m6⟩ := he
    simp only [R] at m4
    refine ⟨by rw [m4.1], ?_⟩
    refine ⟨m1.os, m1.tape, m1.out, m1.size, fun b hb => ?_⟩
    obtain ⟨o, e1, e2⟩ := m1.low b hb
    have e1 : W.heap[b]? = some o := e1
    rw [e1]
    exact m1.still b o (.inl e2)
end
end Go.Va

/- The verified abstract interpreter, a part of it: no statement of its own. -/
import Derived.Test.YtmklimlepgiffabVa38
import Derived.OpenShut
import Derived.ProofKit
set_option linter.unusedVariables false
set_option linter.unusedSimpArgs false
set_option linter.unusedVariables false
namespace Go.Va
open Go.ChangeShapes Go.WideShapes Go.ChangeAt Go.RowKit
section
variable {H : Type} {enc : TypeId × Value → H} {P : Program}
/-- a law that comes to true of whatever arguments of its types: its row -/
theorem law_post {env : Env} (EO : EnvOk P env) (hX : ∀ W, ExtOk { P := P, w0 := W } env) {f : FuncId} {fn : Func} {cd : Code} (hf : env.fn f = some fn) (hb : fn.body = some cd)
    {s : ChangeSpec} {ts : List Nat} {tb : Nat} {T : List Nat} (hts : fn.params.toList = ts) (hrt : fn.resultTypes = #[tb]) (hub : P.underlying tb = some .bool)
    (hT : closT P T = true) (hF : fullT P T = true) (hmem : ∀ t ∈ ts, t ∈ T) (hvars : s.vars = [])
    (hs : ∀ ds : List (DataW H), ds.length = ts.length → (s.fn H ds).results = [.lit (.bool true)] ∧ (s.fn H ds).args = ds ∧ (s.fn H ds).vars = [])
    (hlaw : ∀ as : List AV, as.length = ts.length → (∀ (j : Nat) (t : Nat) (y : AV), ts[j]? = some t → as[j]? = some y → ArgWf P t y) → evl env (.call f as []) = some (.ret (.s (.bool true)) []))
    {W : World} {base : Nat} {args : Array Value} {ds gs : List (DataW H)} {before : List MemPlace}
    (hval : ∀ (j : Nat) t v, fn.params[j]? = some t → args[j]? = some v → Value.okWide P W .any base t v)
    (hW : DataW.Whole enc P fn.params.toList s.vars false W args.toList ds gs before) :
    Calls P f args W fun e W' => ∃ v, e = .returned v ∧ s.post enc P fn false true false false W args v W' := by
  have hW' := hW
  obtain ⟨p, q, hA, hV, rfl, hfz, hnd⟩ := hW
  rw [hvars] at hV
  obtain ⟨rfl, rfl⟩ := trodVars_none hV
  have hA : DataW.TrodAll enc P W 0 (fun _ => true) true ts args.toList ds p := hts ▸ hA
  have hok : ∀ (j : Nat) (t : TypeId) (v : Value), ts[j]? = some t → args.toList[j]? = some v → Value.okWide P W .any base t v := fun j t v e1 e2 =>
    hval j t v (by rw [← hts] at e1; simpa using e1) (by simpa using e2)
  obtain ⟨as, l1, k1, k2, k3, _, l2, l3⟩ := args_ok hT hF (W' := W) (fun _ _ => rfl) ts args.toList ds p hmem hA hok
  have hc := law_calls EO (hX W) hf hb (hlaw as (by rw [l1, l2]) k1) l1 k2 k3
  rw [show args.toList.toArray = args from by simp] at hc
  refine hc.mono fun e W' he => ?_
  obtain ⟨he, bel⟩ := he
  subst he
  obtain ⟨_, _, _, _, _, m5, _, _⟩ := args_ok hT hF (W' := W') (fun b hb => bel.block b hb) ts args.toList ds p hmem hA hok
  obtain ⟨s1, s2, s3⟩ := hs (ds ++ []) (by simp [l2, l3])
  have hrl : Value.resultList fn.resultTypes.size (.bool true) = [.bool true] := by rw [hrt]; rfl
  refine ⟨_, rfl, ds, [], p ++ [], [], p, [], hW', ?_, ?_, ?_, bel.frame _, fun h => by cases h⟩
  · rw [hrl, hrt, s1]
    exact trodAll_mk1 (shut_bool hub _)
  · rw [s2, hts, List.append_nil]
    exact m5
  · rw [hvars, s3]
    rfl
/-! ### Values of plain types, told apart -/
theorem Wf_bool {t : Nat} {xs : List AV} (h : Wf P t xs) (hu : P.underlying t = some .bool) : ∃ b, xs = [.s (.bool b)] := by
  cases h <;> simp_all
theorem Wf_int {t : Nat} {xs : List AV} {k : IntKind} (h : Wf P t xs) (hu : P.underlying t = some (.int k)) : ∃ n, xs = [.s (.int k n)] ∧ (Lit.int k n).wf = true := by
  cases h <;> simp_all
theorem Wf_str {t : Nat} {xs : List AV} (h : Wf P t xs) (hu : P.underlying t = some .string) : ∃ s : ByteArray, xs = [.s (.string s)] ∧ s.size ≤ maxLen := by
  cases h <;> simp_all
theorem Wf_slice {t e : Nat} {xs : List AV} (h : Wf P t xs) (hu : P.underlying t = some (.slice e)) :
    ∃ ys, xs = [.sl (P.cellsOf e) ys .imm] ∧ ys.length ≤ maxLen ∧ ∀ y ∈ ys, ArgWf P e y := by
  cases h with
  | bool b h1 => rw [hu] at h1; cases h1
  | int n h1 => rw [hu] at h1; cases h1
  | str s h1 => rw [hu] at h1; cases h1
  | slice ys h1 h2 h3 h4 => rw [hu] at h1; cases h1; exact ⟨ys, rfl, h2, fun y hy => ⟨h3 y hy, h4 y hy⟩⟩
  | struct xs h1 => rw [hu] at h1; cases h1
theorem Wf_struct {t : Nat} {xs : List AV} {fs : Array Field} (h : Wf P t xs) (hu : P.underlying t = some (.struct fs)) :
    xs.length = P.cellsOf t ∧ ∀ f ∈ fs.toList, Wf P f.type ((xs.drop f.offset).take (P.cellsOf f.type)) := by
  cases h with
  | bool b h1 => rw [hu] at h1; cases h1
  | int n h1 => rw [hu] at h1; cases h1
  | str s h1 => rw [hu] at h1; cases h1
  | slice ys h1 => rw [hu] at h1; cases h1
  | struct xs h1 h2 h3 => rw [hu] at h1; cases h1; exact ⟨h2, h3⟩
theorem cells_one {x y : AV} (h : x.cells = [y]) (hx : ¬ ∃ zs, x = .agg zs) : x = y := by
  cases x <;> first | (exact (hx ⟨_, rfl⟩).elim) | (simp only [AV.cells, List.cons.injEq] at h; exact h.1)
theorem arg_bool {t : Nat} {y : AV} (h : ArgWf P t y) (hu : P.underlying t = some .bool) : ∃ b, y = .s (.bool b) := by
  obtain ⟨b, e⟩ := Wf_bool h.1 hu
  exact ⟨b, cells_one e (fun k => by obtain ⟨fs, e⟩ := h.2.2 k; rw [hu] at e; cases e)⟩
theorem arg_int {t : Nat} {y : AV} {k : IntKind} (h : ArgWf P t y) (hu : P.underlying t = some (.int k)) : ∃ n, y = .s (.int k n) ∧ (Lit.int k n).wf = true := by
  obtain ⟨n, e, w⟩ := Wf_int h.1 hu
  exact ⟨n, cells_one e (fun k => by obtain ⟨fs, e⟩ := h.2.2 k; rw [hu] at e; cases e), w⟩
theorem arg_str {t : Nat} {y : AV} (h : ArgWf P t y) (hu : P.underlying t = some .string) : ∃ s : ByteArray, y = .s (.string s) ∧ s.size ≤ maxLen := by
  obtain ⟨n, e, w⟩ := Wf_str h.1 hu
  exact ⟨n, cells_one e (fun k => by obtain ⟨fs, e⟩ := h.2.2 k; rw [hu] at e; cases e), w⟩
theorem arg_slice {t e : Nat} {y : AV} (h : ArgWf P t y) (hu : P.underlying t = some (.slice e)) : ∃ ys, y = .sl (P.cellsOf e) ys .imm ∧ ys.length ≤ maxLen ∧ ∀ y ∈ ys, ArgWf P e y := by
  obtain ⟨n, e, w⟩ := Wf_slice h.1 hu
  exact ⟨n, cells_one e (fun k => by obtain ⟨fs, e⟩ := h.2.2 k; rw [hu] at e; cases e), w⟩
theorem arg_struct {t : Nat} {y : AV} {fs : Array Field} (h : ArgWf P t y) (hu : P.underlying t = some (.struct fs)) :
    ∃ xs, y = .agg xs ∧ xs.length = P.cellsOf t ∧ ∀ f ∈ fs.toList, Wf P f.type ((xs.drop f.offset).take (P.cellsOf f.type)) := by
  obtain ⟨zs, rfl⟩ := h.2.1 ⟨fs, hu⟩
  exact ⟨zs, rfl, Wf_struct h.1 hu⟩
/-- a list whose elements are all told by a function -/
theorem list_map {α : Type} {p : AV → Prop} {g : α → AV} {q : α → Prop} (hp : ∀ y, p y → ∃ a, y = g a ∧ q a) : ∀ {ys : List AV}, (∀ y ∈ ys, p y) → ∃ l : List α, ys = l.map g ∧ ∀ a ∈ l, q a
  | [], _ => ⟨[], rfl, by simp⟩
  | y :: ys, h => by
    obtain ⟨a, rfl, ha⟩ := hp y (h y (by simp))
    obtain ⟨l, rfl, hl⟩ := list_map hp (ys := ys) (fun y hy => h y (by simp [hy]))
    exact ⟨a :: l, rfl, by simpa using ⟨ha, hl⟩⟩
end
end Go.Va

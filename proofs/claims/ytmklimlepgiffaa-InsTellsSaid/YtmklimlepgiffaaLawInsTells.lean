/- PROVED: placketlaw11.InsTells comes to true of every instruction, and what it was given reads as it did. Conditions: those of the given row alone (each string within reach). -/
import Derived.Test.YtmklimlepgiffaaEq4
import Derived.Test.YtmklimlepgiffaaRows
import Derived.WalkKit
import Derived.ProofKit
import Derived.OpenShut
import Derived.ShutString
import Derived.ChangeOld
import Derived.Below
import Derived.SizedLaws
set_option linter.unusedVariables false
set_option linter.unusedSimpArgs false
namespace Go.Va
open Go.Proofs
set_option maxRecDepth 100000
theorem fn_all : fnT.Forall (fun f fn => Try.prog.funcs[f]? = some fn ∧ (fn.name == "runtime.NumGoroutine") = false) := by
  unfold fnT
  simp only [Tr.Forall]
  and_intros <;> first | trivial | kernel_rfl
theorem env_ok : EnvOk Try.prog (envV realAr) where
  A := rfl
  fn f fn h := Tr.get_of fn_all h
  ty t ty h := Tr.all_get (p := fun t ty => tyChk Try.prog t ty) (by kernel_rfl) h
  mixed := by kernel_rfl
theorem ins_arg {y : AV} (h : ArgWf Try.prog 25 y) : ∃ (o : Int) (a b : ByteArray), y = .agg [.s (.int .i64 o), .s (.string a), .s (.string b)] ∧ a.size ≤ 9223372036854775807 ∧ b.size ≤ 9223372036854775807 := by
  obtain ⟨xs, rfl, hl, hf⟩ := arg_struct h Try.underlying25
  have hl : xs.length = 3 := hl
  match xs, hl with
  | [x, y, z], _ =>
    simp only [Array.toList, List.forall_mem_cons] at hf
    obtain ⟨h0, h1, h2, -⟩ := hf
    have h0 : Wf Try.prog 3 [x] := h0
    have h1 : Wf Try.prog 9 [y] := h1
    have h2 : Wf Try.prog 9 [z] := h2
    obtain ⟨o, e0, -⟩ := Wf_int h0 Try.underlying3
    obtain ⟨a, e1, k1⟩ := Wf_str h1 Try.underlying9
    obtain ⟨b, e2, k2⟩ := Wf_str h2 Try.underlying9
    simp only [List.cons.injEq, and_true] at e0 e1 e2
    subst e0 e1 e2
    exact ⟨o, a, b, rfl, k1, k2⟩
end Go.Va
namespace Go.Proofs.Ytmklimlepgiffaa.insTells
open Go.ChangeShapes Go.WideShapes Go.ChangeAt Go.RowKit Go.Va
theorem own : ownKnob Try.prog.godebug = none := by kernel_rfl
theorem hlaw (ys : List AV) (hl : ys.length = [25].length) (hw : ∀ (j : Nat) (t : Nat) (y : AV), [25][j]? = some t → ys[j]? = some y → ArgWf Try.prog t y) :
    evl (envV realAr) (.call 5 ys []) = some (.ret (.s (.bool true)) []) := by
  match ys, hl with
  | [y], _ =>
    obtain ⟨o, a, b, rfl, ha, hb⟩ := ins_arg (hw 0 25 y rfl rfl)
    exact ins_law o a b ha hb
set_option maxRecDepth 100000 in
theorem lifted (os : Os) (started : os.Started) (H : Type) (enc : TypeId × Value → H) :
    ReturnsInHanded {} Try.checked os 5 .any (Rows.insTellsSpec.pre6 enc Try.prog Try.f5 Rows.insTellsRow.domain false) (Rows.insTellsSpec.post enc Try.prog Try.f5 false true false false) := by
  refine returnsInHanded_of_change_sized (C := Try.checked) own started (by kernel_rfl) Try.func5
    (ChangeSpec.witness6 (enc := enc) (C := Try.checked) false ⟨#[], #[.agg #[.int .i64 0, .string ByteArray.empty, .string ByteArray.empty]], []⟩ 8 (by kernel_rfl) (by kernel_rfl) (by kernel_rfl) (by kernel_rfl)) ?_
  intro W base args ds gs before hval hW _ _ _
  refine law_post env_ok (fun W => ?_) (f := 5) (fn := Try.f5) (cd := bd5) rfl rfl (ts := [25]) (tb := 4) (T := [3, 9, 25]) rfl rfl Try.underlying4 (by kernel_rfl) (by kernel_rfl) (by decide) rfl ?_ hlaw hval hW
  · intro f e h
    cases h
  · intro ds hds
    match ds, hds with
    | [d], _ => exact ⟨rfl, rfl, rfl⟩
theorem over : Rows.insTellsRow.holds Try.pinned (OpenSpec.ofChange Rows.insTellsSpec) :=
  OpenClaim.holds_of_wide 5 Try.f5 rfl rfl rfl rfl rfl rfl rfl ⟨rfl, rfl, rfl, rfl, rfl⟩ rfl rfl rfl rfl rfl (by kernel_rfl) Try.func5 (by kernel_rfl)
    (of_decide_eq_true (by kernel_rfl)) (by unfold Func.isWrapper; first | (rw [if_pos (by decide +kernel)]; kernel_rfl) | (rw [if_neg (by decide +kernel)]; exact ⟨rfl, rfl⟩))
    (fun os started H enc _ => lifted os started H enc)
theorem proved : Rows.InsTellsSaid := over
#print axioms proved
end Go.Proofs.Ytmklimlepgiffaa.insTells
namespace Go.Proofs.Ytmklimlepgiffaa
/-- The row, under a short name, for the claim. -/
theorem insTells_holds : Rows.InsTellsSaid := insTells.proved
end Go.Proofs.Ytmklimlepgiffaa

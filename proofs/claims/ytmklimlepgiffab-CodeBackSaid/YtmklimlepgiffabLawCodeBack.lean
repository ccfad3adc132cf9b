/- PROVED: placketlaw12.CodeBack comes to true of every list of instructions, every list of bytes and every number, and what it was given reads as it did. Conditions: those of the given row alone (each slice and each string within reach). -/
import Derived.Test.YtmklimlepgiffabEq13
import Derived.Test.YtmklimlepgiffabRows
import Derived.WalkKit
import Derived.ProofKit
import Derived.OpenShut
import Derived.ShutString
import Derived.ChangeOld
import Derived.Below
import Derived.SizedLaws
set_option linter.unusedVariables false
set_option linter.unusedSimpArgs false
set_option linter.unusedSectionVars false
namespace Go.Proofs.Ytmklimlepgiffab.codeBack
open Go.ChangeShapes Go.WideShapes Go.ChangeAt Go.RowKit Go.Va
theorem own : ownKnob Try.prog.godebug = none := by kernel_rfl
theorem hlaw (ys : List AV) (hl : ys.length = [24, 22, 3].length) (hw : ∀ (j : Nat) (t : Nat) (y : AV), [24, 22, 3][j]? = some t → ys[j]? = some y → ArgWf Try.prog t y) :
    evl (envV realAr) (.call 4 ys []) = some (.ret (.s (.bool true)) []) := by
  match ys, hl with
  | [y, z, x], _ =>
    obtain ⟨is, rfl, hl⟩ := insl_of (hw 0 24 y rfl rfl) Try.underlying24 Try.underlying38 rfl Try.underlying3 Try.underlying9 (by kernel_rfl) (by kernel_rfl) (by kernel_rfl)
    obtain ⟨bs, rfl, hb⟩ := bytes_of (hw 1 22 z rfl rfl) Try.underlying22 Try.underlying5 (by kernel_rfl)
    obtain ⟨k, rfl, -⟩ := arg_int (hw 2 3 x rfl rfl) Try.underlying3
    exact codeBack_law is bs k hl hb
set_option maxRecDepth 100000 in
theorem lifted (os : Os) (started : os.Started) (H : Type) (enc : TypeId × Value → H) :
    ReturnsInHanded {} Try.checked os 4 .any (Rows.codeBackSpec.pre6 enc Try.prog Try.f4 Rows.codeBackRow.domain false) (Rows.codeBackSpec.post enc Try.prog Try.f4 false true false false) := by
  refine returnsInHanded_of_change_sized (C := Try.checked) own started (by kernel_rfl) Try.func4
    (ChangeSpec.witness6 (enc := enc) (C := Try.checked) false ⟨#[], #[.slice none 0 0, .slice none 0 0, .int .i64 0], []⟩ 8 (by kernel_rfl) (by kernel_rfl) (by kernel_rfl) (by kernel_rfl)) ?_
  intro W base args ds gs before hval hW _ _ _
  refine law_post env_ok (fun W => by intro f e h; cases h) (f := 4) (fn := Try.f4) (cd := bd4) rfl rfl (ts := [24, 22, 3]) (tb := 4) (T := [3, 5, 9, 22, 24, 38]) rfl rfl Try.underlying4 (by kernel_rfl) (by kernel_rfl) (by decide) rfl ?_ hlaw hval hW
  intro ds hds
  match ds, hds with
  | [d0, d1, d2], _ => exact ⟨rfl, rfl, rfl⟩
theorem over : Rows.codeBackRow.holds Try.pinned (OpenSpec.ofChange Rows.codeBackSpec) :=
  OpenClaim.holds_of_wide 4 Try.f4 rfl rfl rfl rfl rfl rfl rfl ⟨rfl, rfl, rfl, rfl, rfl⟩ rfl rfl rfl rfl rfl (by kernel_rfl) Try.func4 (by kernel_rfl)
    (of_decide_eq_true (by kernel_rfl)) (by unfold Func.isWrapper; first | (rw [if_pos (by decide +kernel)]; kernel_rfl) | (rw [if_neg (by decide +kernel)]; exact ⟨rfl, rfl⟩))
    (fun os started H enc _ => lifted os started H enc)
theorem proved : Rows.CodeBackSaid := over
#print axioms proved
end Go.Proofs.Ytmklimlepgiffab.codeBack
namespace Go.Proofs.Ytmklimlepgiffab
/-- The row, under a short name, for the claim. -/
theorem codeBack_holds : Rows.CodeBackSaid := codeBack.proved
end Go.Proofs.Ytmklimlepgiffab

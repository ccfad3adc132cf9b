/- PROVED: placketlaw02.EscBack comes to true of every two texts, and what it was given reads as it did. Conditions: those of the given row alone (each string within reach). -/
import Derived.Test.YtmklimlepgiffaaEq11
import Derived.Test.YtmklimlepgiffaaRows
import Derived.WalkKit
import Derived.ProofKit
import Derived.OpenShut
import Derived.ShutString
import Derived.ChangeOld
import Derived.Below
import Derived.SizedLaws
set_option linter.unusedVariables false
set_option linter.unusedSimpArgs false
set_option linter.unusedSectionVars false
namespace Go.Proofs.Ytmklimlepgiffaa.escBack
open Go.ChangeShapes Go.WideShapes Go.ChangeAt Go.RowKit Go.Va
theorem own : ownKnob Try.prog.godebug = none := by kernel_rfl
theorem hlaw (ys : List AV) (hl : ys.length = [9, 9].length) (hw : ∀ (j : Nat) (t : Nat) (y : AV), [9, 9][j]? = some t → ys[j]? = some y → ArgWf Try.prog t y) :
    evl (envV realAr) (.call 9 ys []) = some (.ret (.s (.bool true)) []) := by
  match ys, hl with
  | [x, y], _ =>
    obtain ⟨s, rfl, -⟩ := arg_str (hw 0 9 x rfl rfl) Try.underlying9
    obtain ⟨t, rfl, -⟩ := arg_str (hw 1 9 y rfl rfl) Try.underlying9
    exact escBack_law s t
set_option maxRecDepth 100000 in
theorem lifted (os : Os) (started : os.Started) (H : Type) (enc : TypeId × Value → H) :
    ReturnsInHanded {} Try.checked os 9 .any (Rows.escBackSpec.pre6 enc Try.prog Try.f9 Rows.escBackRow.domain false) (Rows.escBackSpec.post enc Try.prog Try.f9 false true false false) := by
  refine returnsInHanded_of_change_sized (C := Try.checked) own started (by kernel_rfl) Try.func9
    (ChangeSpec.witness6 (enc := enc) (C := Try.checked) false ⟨#[], #[.string ByteArray.empty, .string ByteArray.empty], []⟩ 8 (by kernel_rfl) (by kernel_rfl) (by kernel_rfl) (by kernel_rfl)) ?_
  intro W base args ds gs before hval hW _ _ _
  refine law_post env_ok (fun W => ext_ok W) (f := 9) (fn := Try.f9) (cd := bd9) rfl rfl (ts := [9, 9]) (tb := 4) (T := [4,9]) rfl rfl Try.underlying4 (by kernel_rfl) (by kernel_rfl) (by decide) rfl ?_ hlaw hval hW
  intro ds hds
  match ds, hds with
  | [d0, d1], _ => exact ⟨rfl, rfl, rfl⟩
theorem over : Rows.escBackRow.holds Try.pinned (OpenSpec.ofChange Rows.escBackSpec) :=
  OpenClaim.holds_of_wide 9 Try.f9 rfl rfl rfl rfl rfl rfl rfl ⟨rfl, rfl, rfl, rfl, rfl⟩ rfl rfl rfl rfl rfl (by kernel_rfl) Try.func9 (by kernel_rfl)
    (of_decide_eq_true (by kernel_rfl)) (by unfold Func.isWrapper; first | (rw [if_pos (by decide +kernel)]; kernel_rfl) | (rw [if_neg (by decide +kernel)]; exact ⟨rfl, rfl⟩))
    (fun os started H enc _ => lifted os started H enc)
theorem proved : Rows.EscBackSaid := over
#print axioms proved
end Go.Proofs.Ytmklimlepgiffaa.escBack
namespace Go.Proofs.Ytmklimlepgiffaa
/-- The row, under a short name, for the claim. -/
theorem escBack_holds : Rows.EscBackSaid := escBack.proved
end Go.Proofs.Ytmklimlepgiffaa

/- WishBack holds for every list of instructions. -/
import Derived.Test.YtmklimlepgiffabEq14
import Derived.Test.YtmklimlepgiffabRows
import Derived.WalkKit
import Derived.ProofKit
import Derived.OpenShut
import Derived.ShutString
import Derived.ChangeOld
import Derived.Below
import Derived.SizedLaws
set_option linter.unusedVariables false
set_option linter.unusedSimpArgs false
set_option linter.unusedSectionVars false
namespace Go.Proofs.Ytmklimlepgiffab.wishBack
open Go.ChangeShapes Go.WideShapes Go.ChangeAt Go.RowKit Go.Va
theorem own : ownKnob Try.prog.godebug = none := by kernel_rfl
theorem hlaw (ys : List AV) (hl : ys.length = [24].length) (hw : ∀ (j : Nat) (t : Nat) (y : AV), [24][j]? = some t → ys[j]? = some y → ArgWf Try.prog t y) :
    evl (envV realAr) (.call 12 ys []) = some (.ret (.s (.bool true)) []) := by
  match ys, hl with
  | [x], _ =>
    obtain ⟨is, rfl, hl⟩ := insl_of (hw 0 24 x rfl rfl) Try.underlying24 Try.underlying38 rfl Try.underlying3 Try.underlying9 (by kernel_rfl) (by kernel_rfl) (by kernel_rfl)
    exact wishBack_law is hl
set_option maxRecDepth 100000 in
theorem lifted (os : Os) (started : os.Started) (H : Type) (enc : TypeId × Value → H) :
    ReturnsInHanded {} Try.checked os 12 .any (Rows.wishBackSpec.pre6 enc Try.prog Try.f12 Rows.wishBackRow.domain false) (Rows.wishBackSpec.post enc Try.prog Try.f12 false true false false) := by
  refine returnsInHanded_of_change_sized (C := Try.checked) own started (by kernel_rfl) Try.func12
    (ChangeSpec.witness6 (enc := enc) (C := Try.checked) false ⟨#[], #[.slice none 0 0], []⟩ 8 (by kernel_rfl) (by kernel_rfl) (by kernel_rfl) (by kernel_rfl)) ?_
  intro W base args ds gs before hval hW _ _ _
  refine law_post env_ok (fun W => ext_ok W) (f := 12) (fn := Try.f12) (cd := bd12) rfl rfl (ts := [24]) (tb := 4) (T := [3,4,9,24,38]) rfl rfl Try.underlying4 (by kernel_rfl) (by kernel_rfl) (by decide) rfl ?_ hlaw hval hW
  intro ds hds
  match ds, hds with
  | [d0], _ => exact ⟨rfl, rfl, rfl⟩
theorem over : Rows.wishBackRow.holds Try.pinned (OpenSpec.ofChange Rows.wishBackSpec) :=
  OpenClaim.holds_of_wide 12 Try.f12 rfl rfl rfl rfl rfl rfl rfl ⟨rfl, rfl, rfl, rfl, rfl⟩ rfl rfl rfl rfl rfl (by kernel_rfl) Try.func12 (by kernel_rfl)
    (of_decide_eq_true (by kernel_rfl)) (by unfold Func.isWrapper; first | (rw [if_pos (by decide +kernel)]; kernel_rfl) | (rw [if_neg (by decide +kernel)]; exact ⟨rfl, rfl⟩))
    (fun os started H enc _ => lifted os started H enc)
theorem proved : Rows.WishBackSaid := over
#print axioms proved
end Go.Proofs.Ytmklimlepgiffab.wishBack
namespace Go.Proofs.Ytmklimlepgiffab
/-- The row, under a short name, for the claim. -/
theorem wishBack_holds : Rows.WishBackSaid := wishBack.proved
end Go.Proofs.Ytmklimlepgiffab

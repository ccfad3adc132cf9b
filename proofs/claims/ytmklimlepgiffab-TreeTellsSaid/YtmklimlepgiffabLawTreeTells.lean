/- PROVED: placketlaw08.TreeTells comes to true of every two trees, and what it was given reads as it did. Conditions: those of the given row alone (each slice and each string within reach). -/
import Derived.Test.YtmklimlepgiffabEq12
import Derived.Test.YtmklimlepgiffabRows
import Derived.WalkKit
import Derived.ProofKit
import Derived.OpenShut
import Derived.ShutString
import Derived.ChangeOld
import Derived.Below
import Derived.SizedLaws
set_option linter.unusedVariables false
set_option linter.unusedSimpArgs false
set_option linter.unusedSectionVars false
namespace Go.Proofs.Ytmklimlepgiffab.treeTells
open Go.ChangeShapes Go.WideShapes Go.ChangeAt Go.RowKit Go.Va
theorem own : ownKnob Try.prog.godebug = none := by kernel_rfl
theorem hlaw (ys : List AV) (hl : ys.length = [46, 46].length) (hw : ∀ (j : Nat) (t : Nat) (y : AV), [46, 46][j]? = some t → ys[j]? = some y → ArgWf Try.prog t y) :
    evl (envV realAr) (.call 6 ys []) = some (.ret (.s (.bool true)) []) := by
  match ys, hl with
  | [y, z], _ =>
    obtain ⟨t, rfl⟩ := tree_of Try.underlying46 rfl Try.underlying9 Try.underlying43 Try.underlying44 Try.underlying120 rfl Try.underlying4 (by kernel_rfl) (by kernel_rfl) (by kernel_rfl) (by kernel_rfl) (by kernel_rfl) (by kernel_rfl) _ _ (Nat.le_refl _) (hw 0 46 y rfl rfl)
    obtain ⟨u, rfl⟩ := tree_of Try.underlying46 rfl Try.underlying9 Try.underlying43 Try.underlying44 Try.underlying120 rfl Try.underlying4 (by kernel_rfl) (by kernel_rfl) (by kernel_rfl) (by kernel_rfl) (by kernel_rfl) (by kernel_rfl) _ _ (Nat.le_refl _) (hw 1 46 z rfl rfl)
    exact treeTells_law t u
set_option maxRecDepth 100000 in
theorem lifted (os : Os) (started : os.Started) (H : Type) (enc : TypeId × Value → H) :
    ReturnsInHanded {} Try.checked os 6 .any (Rows.treeTellsSpec.pre6 enc Try.prog Try.f6 Rows.treeTellsRow.domain false) (Rows.treeTellsSpec.post enc Try.prog Try.f6 false true false false) := by
  refine returnsInHanded_of_change_sized (C := Try.checked) own started (by kernel_rfl) Try.func6
    (ChangeSpec.witness6 (enc := enc) (C := Try.checked) false ⟨#[], #[.agg #[.string ByteArray.empty, .string ByteArray.empty, .string ByteArray.empty, .slice none 0 0, .slice none 0 0], .agg #[.string ByteArray.empty, .string ByteArray.empty, .string ByteArray.empty, .slice none 0 0, .slice none 0 0]], []⟩ 8 (by kernel_rfl) (by kernel_rfl) (by kernel_rfl) (by kernel_rfl)) ?_
  intro W base args ds gs before hval hW _ _ _
  refine law_post env_ok (fun W => by intro f e h; cases h) (f := 6) (fn := Try.f6) (cd := bd6) rfl rfl (ts := [46, 46]) (tb := 4) (T := [4, 9, 43, 44, 46, 120]) rfl rfl Try.underlying4 (by kernel_rfl) (by kernel_rfl) (by decide) rfl ?_ hlaw hval hW
  intro ds hds
  match ds, hds with
  | [d0, d1], _ => exact ⟨rfl, rfl, rfl⟩
theorem over : Rows.treeTellsRow.holds Try.pinned (OpenSpec.ofChange Rows.treeTellsSpec) :=
  OpenClaim.holds_of_wide 6 Try.f6 rfl rfl rfl rfl rfl rfl rfl ⟨rfl, rfl, rfl, rfl, rfl⟩ rfl rfl rfl rfl rfl (by kernel_rfl) Try.func6 (by kernel_rfl)
    (of_decide_eq_true (by kernel_rfl)) (by unfold Func.isWrapper; first | (rw [if_pos (by decide +kernel)]; kernel_rfl) | (rw [if_neg (by decide +kernel)]; exact ⟨rfl, rfl⟩))
    (fun os started H enc _ => lifted os started H enc)
theorem proved : Rows.TreeTellsSaid := over
#print axioms proved
end Go.Proofs.Ytmklimlepgiffab.treeTells
namespace Go.Proofs.Ytmklimlepgiffab
/-- The row, under a short name, for the claim. -/
theorem treeTells_holds : Rows.TreeTellsSaid := treeTells.proved
end Go.Proofs.Ytmklimlepgiffab

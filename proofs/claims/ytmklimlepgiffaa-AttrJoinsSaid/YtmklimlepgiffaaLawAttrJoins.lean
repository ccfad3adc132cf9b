/- PROVED: placketlaw03.AttrJoins comes to true of every two lists of attributes, and what it was given reads as it did. Conditions: those of the given row alone (each slice and each string within reach). -/
import Derived.Test.YtmklimlepgiffaaEq13
import Derived.Test.YtmklimlepgiffaaRows
import Derived.WalkKit
import Derived.ProofKit
import Derived.OpenShut
import Derived.ShutString
import Derived.ChangeOld
import Derived.Below
import Derived.SizedLaws
set_option linter.unusedVariables false
set_option linter.unusedSimpArgs false
set_option linter.unusedSectionVars false
namespace Go.Proofs.Ytmklimlepgiffaa.attrJoins
open Go.ChangeShapes Go.WideShapes Go.ChangeAt Go.RowKit Go.Va
theorem own : ownKnob Try.prog.godebug = none := by kernel_rfl
theorem hlaw (ys : List AV) (hl : ys.length = [59, 59].length) (hw : ∀ (j : Nat) (t : Nat) (y : AV), [59, 59][j]? = some t → ys[j]? = some y → ArgWf Try.prog t y) :
    evl (envV realAr) (.call 13 ys []) = some (.ret (.s (.bool true)) []) := by
  match ys, hl with
  | [y, z], _ =>
    obtain ⟨l, rfl⟩ := attrs_of (hw 0 59 y rfl rfl) Try.underlying59 Try.underlying73 rfl Try.underlying9 Try.underlying4 (by kernel_rfl) (by kernel_rfl) (by kernel_rfl)
    obtain ⟨m, rfl⟩ := attrs_of (hw 1 59 z rfl rfl) Try.underlying59 Try.underlying73 rfl Try.underlying9 Try.underlying4 (by kernel_rfl) (by kernel_rfl) (by kernel_rfl)
    exact attrJoins_law l m
set_option maxRecDepth 100000 in
theorem lifted (os : Os) (started : os.Started) (H : Type) (enc : TypeId × Value → H) :
    ReturnsInHanded {} Try.checked os 13 .any (Rows.attrJoinsSpec.pre6 enc Try.prog Try.f13 Rows.attrJoinsRow.domain false) (Rows.attrJoinsSpec.post enc Try.prog Try.f13 false true false false) := by
  refine returnsInHanded_of_change_sized (C := Try.checked) own started (by kernel_rfl) Try.func13
    (ChangeSpec.witness6 (enc := enc) (C := Try.checked) false ⟨#[], #[.slice none 0 0, .slice none 0 0], []⟩ 8 (by kernel_rfl) (by kernel_rfl) (by kernel_rfl) (by kernel_rfl)) ?_
  intro W base args ds gs before hval hW _ _ _
  refine law_post env_ok (fun W => ext_ok W) (f := 13) (fn := Try.f13) (cd := bd13) rfl rfl (ts := [59, 59]) (tb := 4) (T := [4, 9, 59, 73]) rfl rfl Try.underlying4 (by kernel_rfl) (by kernel_rfl) (by decide) rfl ?_ hlaw hval hW
  intro ds hds
  match ds, hds with
  | [d0, d1], _ => exact ⟨rfl, rfl, rfl⟩
theorem over : Rows.attrJoinsRow.holds Try.pinned (OpenSpec.ofChange Rows.attrJoinsSpec) :=
  OpenClaim.holds_of_wide 13 Try.f13 rfl rfl rfl rfl rfl rfl rfl ⟨rfl, rfl, rfl, rfl, rfl⟩ rfl rfl rfl rfl rfl (by kernel_rfl) Try.func13 (by kernel_rfl)
    (of_decide_eq_true (by kernel_rfl)) (by unfold Func.isWrapper; first | (rw [if_pos (by decide +kernel)]; kernel_rfl) | (rw [if_neg (by decide +kernel)]; exact ⟨rfl, rfl⟩))
    (fun os started H enc _ => lifted os started H enc)
theorem proved : Rows.AttrJoinsSaid := over
#print axioms proved
end Go.Proofs.Ytmklimlepgiffaa.attrJoins
namespace Go.Proofs.Ytmklimlepgiffaa
/-- The row, under a short name, for the claim. -/
theorem attrJoins_holds : Rows.AttrJoinsSaid := attrJoins.proved
end Go.Proofs.Ytmklimlepgiffaa

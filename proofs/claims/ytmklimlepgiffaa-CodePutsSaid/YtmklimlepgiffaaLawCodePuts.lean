/- PROVED: placketlaw12.CodePuts comes to true of every list of instructions, and what it was given reads as it did. Conditions: those of the given row alone (each slice and each string within reach). -/
import Derived.Test.YtmklimlepgiffaaEq10
import Derived.Test.YtmklimlepgiffaaRows
import Derived.WalkKit
import Derived.ProofKit
import Derived.OpenShut
import Derived.ShutString
import Derived.ChangeOld
import Derived.Below
import Derived.SizedLaws
set_option linter.unusedVariables false
set_option linter.unusedSimpArgs false
namespace Go.Proofs.Ytmklimlepgiffaa.codePuts
open Go.ChangeShapes Go.WideShapes Go.ChangeAt Go.RowKit Go.Va
theorem own : ownKnob Try.prog.godebug = none := by kernel_rfl
theorem hlaw (ys : List AV) (hl : ys.length = [81].length) (hw : ∀ (j : Nat) (t : Nat) (y : AV), [81][j]? = some t → ys[j]? = some y → ArgWf Try.prog t y) :
    evl (envV realAr) (.call 14 ys []) = some (.ret (.s (.bool true)) []) := by
  match ys, hl with
  | [y], _ =>
    obtain ⟨is, rfl, hl⟩ := insl_of (hw 0 81 y rfl rfl) Try.underlying81 Try.underlying25 rfl Try.underlying3 Try.underlying9 (by kernel_rfl) (by kernel_rfl) (by kernel_rfl)
    exact codePuts_law is hl
set_option maxRecDepth 100000 in
theorem lifted (os : Os) (started : os.Started) (H : Type) (enc : TypeId × Value → H) :
    ReturnsInHanded {} Try.checked os 14 .any (Rows.codePutsSpec.pre6 enc Try.prog Try.f14 Rows.codePutsRow.domain false) (Rows.codePutsSpec.post enc Try.prog Try.f14 false true false false) := by
  refine returnsInHanded_of_change_sized (C := Try.checked) own started (by kernel_rfl) Try.func14
    (ChangeSpec.witness6 (enc := enc) (C := Try.checked) false ⟨#[], #[.slice none 0 0], []⟩ 8 (by kernel_rfl) (by kernel_rfl) (by kernel_rfl) (by kernel_rfl)) ?_
  intro W base args ds gs before hval hW _ _ _
  refine law_post env_ok (fun W => by intro f e h; cases h) (f := 14) (fn := Try.f14) (cd := bd14) rfl rfl (ts := [81]) (tb := 4) (T := [3, 9, 25, 81]) rfl rfl Try.underlying4 (by kernel_rfl) (by kernel_rfl) (by decide) rfl ?_ hlaw hval hW
  intro ds hds
  match ds, hds with
  | [d0], _ => exact ⟨rfl, rfl, rfl⟩
theorem over : Rows.codePutsRow.holds Try.pinned (OpenSpec.ofChange Rows.codePutsSpec) :=
  OpenClaim.holds_of_wide 14 Try.f14 rfl rfl rfl rfl rfl rfl rfl ⟨rfl, rfl, rfl, rfl, rfl⟩ rfl rfl rfl rfl rfl (by kernel_rfl) Try.func14 (by kernel_rfl)
    (of_decide_eq_true (by kernel_rfl)) (by unfold Func.isWrapper; first | (rw [if_pos (by decide +kernel)]; kernel_rfl) | (rw [if_neg (by decide +kernel)]; exact ⟨rfl, rfl⟩))
    (fun os started H enc _ => lifted os started H enc)
theorem proved : Rows.CodePutsSaid := over
#print axioms proved
end Go.Proofs.Ytmklimlepgiffaa.codePuts
namespace Go.Proofs.Ytmklimlepgiffaa
/-- The row, under a short name, for the claim. -/
theorem codePuts_holds : Rows.CodePutsSaid := codePuts.proved
end Go.Proofs.Ytmklimlepgiffaa

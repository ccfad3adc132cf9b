/- MatchOnce holds for any old nodes and any list of instructions. -/
import Derived.Test.YtmklimlepgiffabEq15
import Derived.Test.YtmklimlepgiffabRows
import Derived.WalkKit
import Derived.ProofKit
import Derived.OpenShut
import Derived.ShutString
import Derived.ChangeOld
import Derived.Below
import Derived.SizedLaws
set_option linter.unusedVariables false
set_option linter.unusedSimpArgs false
set_option linter.unusedSectionVars false
namespace Go.Proofs.Ytmklimlepgiffab.matchOnce
open Go.ChangeShapes Go.WideShapes Go.ChangeAt Go.RowKit Go.Va
theorem own : ownKnob Try.prog.godebug = none := by kernel_rfl
theorem hlaw (ys : List AV) (hl : ys.length = [64, 24].length) (hw : ∀ (j : Nat) (t : Nat) (y : AV), [64, 24][j]? = some t → ys[j]? = some y → ArgWf Try.prog t y) :
    evl (envV realAr) (.call 11 ys []) = some (.ret (.s (.bool true)) []) := by
  match ys, hl with
  | [x, y], _ =>
    obtain ⟨os, rfl⟩ := oldl_of (hw 0 64 x rfl rfl) Try.underlying64 Try.underlying69 rfl Try.underlying9 (by kernel_rfl) (by kernel_rfl)
    obtain ⟨is, rfl, hl⟩ := insl_of (hw 1 24 y rfl rfl) Try.underlying24 Try.underlying38 rfl Try.underlying3 Try.underlying9 (by kernel_rfl) (by kernel_rfl) (by kernel_rfl)
    exact matchOnce_law os is hl
set_option maxRecDepth 100000 in
theorem lifted (os : Os) (started : os.Started) (H : Type) (enc : TypeId × Value → H) :
    ReturnsInHanded {} Try.checked os 11 .any (Rows.matchOnceSpec.pre6 enc Try.prog Try.f11 Rows.matchOnceRow.domain false) (Rows.matchOnceSpec.post enc Try.prog Try.f11 false true false false) := by
  refine returnsInHanded_of_change_sized (C := Try.checked) own started (by kernel_rfl) Try.func11
    (ChangeSpec.witness6 (enc := enc) (C := Try.checked) false ⟨#[], #[.slice none 0 0, .slice none 0 0], []⟩ 8 (by kernel_rfl) (by kernel_rfl) (by kernel_rfl) (by kernel_rfl)) ?_
  intro W base args ds gs before hval hW _ _ _
  refine law_post env_ok (fun W => ext_ok W) (f := 11) (fn := Try.f11) (cd := bd11) rfl rfl (ts := [64, 24]) (tb := 4) (T := [3,4,9,24,38,64,69]) rfl rfl Try.underlying4 (by kernel_rfl) (by kernel_rfl) (by decide) rfl ?_ hlaw hval hW
  intro ds hds
  match ds, hds with
  | [d0, d1], _ => exact ⟨rfl, rfl, rfl⟩
theorem over : Rows.matchOnceRow.holds Try.pinned (OpenSpec.ofChange Rows.matchOnceSpec) :=
  OpenClaim.holds_of_wide 11 Try.f11 rfl rfl rfl rfl rfl rfl rfl ⟨rfl, rfl, rfl, rfl, rfl⟩ rfl rfl rfl rfl rfl (by kernel_rfl) Try.func11 (by kernel_rfl)
    (of_decide_eq_true (by kernel_rfl)) (by unfold Func.isWrapper; first | (rw [if_pos (by decide +kernel)]; kernel_rfl) | (rw [if_neg (by decide +kernel)]; exact ⟨rfl, rfl⟩))
    (fun os started H enc _ => lifted os started H enc)
theorem proved : Rows.MatchOnceSaid := over
#print axioms proved
end Go.Proofs.Ytmklimlepgiffab.matchOnce
namespace Go.Proofs.Ytmklimlepgiffab
/-- The row, under a short name, for the claim. -/
theorem matchOnce_holds : Rows.MatchOnceSaid := matchOnce.proved
end Go.Proofs.Ytmklimlepgiffab

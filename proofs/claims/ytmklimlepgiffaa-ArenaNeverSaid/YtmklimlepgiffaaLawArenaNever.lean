/- PROVED: placketlaw04.ArenaNever comes to true of every room and every list of numbers, and what it was given reads as it did. Conditions: those of the given row alone (each slice within reach). -/
import Derived.Test.YtmklimlepgiffaaEq8
import Derived.Test.YtmklimlepgiffaaRows
import Derived.WalkKit
import Derived.ProofKit
import Derived.OpenShut
import Derived.ShutString
import Derived.ChangeOld
import Derived.Below
import Derived.SizedLaws
set_option linter.unusedVariables false
set_option linter.unusedSimpArgs false
set_option linter.unusedSectionVars false
namespace Go.Proofs.Ytmklimlepgiffaa.arenaNever
open Go.ChangeShapes Go.WideShapes Go.ChangeAt Go.RowKit Go.Va
theorem own : ownKnob Try.prog.godebug = none := by kernel_rfl
theorem hlaw (ys : List AV) (hl : ys.length = [3, 28].length) (hw : ∀ (j : Nat) (t : Nat) (y : AV), [3, 28][j]? = some t → ys[j]? = some y → ArgWf Try.prog t y) :
    evl (envV realAr) (.call 6 ys []) = some (.ret (.s (.bool true)) []) := by
  match ys, hl with
  | [y, z], _ =>
    obtain ⟨room, rfl, -⟩ := arg_int (hw 0 3 y rfl rfl) Try.underlying3
    obtain ⟨zs, rfl, -, hz⟩ := arg_slice (hw 1 28 z rfl rfl) Try.underlying28
    obtain ⟨ds, rfl, -⟩ := list_map (g := intA) (q := fun _ => True) (fun y h => by obtain ⟨n, e, -⟩ := arg_int h Try.underlying3; exact ⟨n, e, trivial⟩) hz
    rw [show Try.prog.cellsOf 3 = 1 by kernel_rfl]
    exact ArStr.arenaNever_law room ds
set_option maxRecDepth 100000 in
theorem lifted (os : Os) (started : os.Started) (H : Type) (enc : TypeId × Value → H) :
    ReturnsInHanded {} Try.checked os 6 .any (Rows.arenaNeverSpec.pre6 enc Try.prog Try.f6 Rows.arenaNeverRow.domain false) (Rows.arenaNeverSpec.post enc Try.prog Try.f6 false true false false) := by
  refine returnsInHanded_of_change_sized (C := Try.checked) own started (by kernel_rfl) Try.func6
    (ChangeSpec.witness6 (enc := enc) (C := Try.checked) false ⟨#[], #[.int .i64 0, .slice none 0 0], []⟩ 8 (by kernel_rfl) (by kernel_rfl) (by kernel_rfl) (by kernel_rfl)) ?_
  intro W base args ds gs before hval hW _ _ _
  refine law_post env_ok (fun W => ext_ok W) (f := 6) (fn := Try.f6) (cd := bd6) rfl rfl (ts := [3, 28]) (tb := 4) (T := [3,4,28]) rfl rfl Try.underlying4 (by kernel_rfl) (by kernel_rfl) (by decide) rfl ?_ hlaw hval hW
  intro ds hds
  match ds, hds with
  | [d0, d1], _ => exact ⟨rfl, rfl, rfl⟩
theorem over : Rows.arenaNeverRow.holds Try.pinned (OpenSpec.ofChange Rows.arenaNeverSpec) :=
  OpenClaim.holds_of_wide 6 Try.f6 rfl rfl rfl rfl rfl rfl rfl ⟨rfl, rfl, rfl, rfl, rfl⟩ rfl rfl rfl rfl rfl (by kernel_rfl) Try.func6 (by kernel_rfl)
    (of_decide_eq_true (by kernel_rfl)) (by unfold Func.isWrapper; first | (rw [if_pos (by decide +kernel)]; kernel_rfl) | (rw [if_neg (by decide +kernel)]; exact ⟨rfl, rfl⟩))
    (fun os started H enc _ => lifted os started H enc)
theorem proved : Rows.ArenaNeverSaid := over
#print axioms proved
end Go.Proofs.Ytmklimlepgiffaa.arenaNever
namespace Go.Proofs.Ytmklimlepgiffaa
/-- The row, under a short name, for the claim. -/
theorem arenaNever_holds : Rows.ArenaNeverSaid := arenaNever.proved
end Go.Proofs.Ytmklimlepgiffaa

/- PROVED: placketlaw12.CodeGets comes to true of every list of bytes, and what it was given reads as it did. Conditions: those of the given row alone (each slice within reach). -/
import Derived.Test.YtmklimlepgiffabEq12
import Derived.Test.YtmklimlepgiffabRows
import Derived.WalkKit
import Derived.ProofKit
import Derived.OpenShut
import Derived.ShutString
import Derived.ChangeOld
import Derived.Below
import Derived.SizedLaws
set_option linter.unusedVariables false
set_option linter.unusedSimpArgs false
namespace Go.Proofs.Ytmklimlepgiffab.codeGets
open Go.ChangeShapes Go.WideShapes Go.ChangeAt Go.RowKit Go.Va
theorem own : ownKnob Try.prog.godebug = none := by kernel_rfl
theorem hlaw (ys : List AV) (hl : ys.length = [22].length) (hw : ∀ (j : Nat) (t : Nat) (y : AV), [22][j]? = some t → ys[j]? = some y → ArgWf Try.prog t y) :
    evl (envV realAr) (.call 3 ys []) = some (.ret (.s (.bool true)) []) := by
  match ys, hl with
  | [y], _ =>
    obtain ⟨bs, rfl, -⟩ := bytes_of (hw 0 22 y rfl rfl) Try.underlying22 Try.underlying5 (by kernel_rfl)
    exact codeGets_law bs
set_option maxRecDepth 100000 in
theorem lifted (os : Os) (started : os.Started) (H : Type) (enc : TypeId × Value → H) :
    ReturnsInHanded {} Try.checked os 3 .any (Rows.codeGetsSpec.pre6 enc Try.prog Try.f3 Rows.codeGetsRow.domain false) (Rows.codeGetsSpec.post enc Try.prog Try.f3 false true false false) := by
  refine returnsInHanded_of_change_sized (C := Try.checked) own started (by kernel_rfl) Try.func3
    (ChangeSpec.witness6 (enc := enc) (C := Try.checked) false ⟨#[], #[.slice none 0 0], []⟩ 8 (by kernel_rfl) (by kernel_rfl) (by kernel_rfl) (by kernel_rfl)) ?_
  intro W base args ds gs before hval hW _ _ _
  refine law_post env_ok (fun W => by intro f e h; cases h) (f := 3) (fn := Try.f3) (cd := bd3) rfl rfl (ts := [22]) (tb := 4) (T := [5, 22]) rfl rfl Try.underlying4 (by kernel_rfl) (by kernel_rfl) (by decide) rfl ?_ hlaw hval hW
  intro ds hds
  match ds, hds with
  | [d0], _ => exact ⟨rfl, rfl, rfl⟩
theorem over : Rows.codeGetsRow.holds Try.pinned (OpenSpec.ofChange Rows.codeGetsSpec) :=
  OpenClaim.holds_of_wide 3 Try.f3 rfl rfl rfl rfl rfl rfl rfl ⟨rfl, rfl, rfl, rfl, rfl⟩ rfl rfl rfl rfl rfl (by kernel_rfl) Try.func3 (by kernel_rfl)
    (of_decide_eq_true (by kernel_rfl)) (by unfold Func.isWrapper; first | (rw [if_pos (by decide +kernel)]; kernel_rfl) | (rw [if_neg (by decide +kernel)]; exact ⟨rfl, rfl⟩))
    (fun os started H enc _ => lifted os started H enc)
theorem proved : Rows.CodeGetsSaid := over
#print axioms proved
end Go.Proofs.Ytmklimlepgiffab.codeGets
namespace Go.Proofs.Ytmklimlepgiffab
/-- The row, under a short name, for the claim. -/
theorem codeGets_holds : Rows.CodeGetsSaid := codeGets.proved
end Go.Proofs.Ytmklimlepgiffab

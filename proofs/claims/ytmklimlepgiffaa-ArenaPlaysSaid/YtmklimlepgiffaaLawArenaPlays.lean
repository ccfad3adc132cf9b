/- PROVED: placketlaw04.ArenaPlays comes to true of every room and every list of deeds, and what it was given reads as it did. Conditions: those of the given row alone (each slice within reach). -/
import Derived.Test.YtmklimlepgiffaaEq13
import Derived.Test.YtmklimlepgiffaaRows
import Derived.WalkKit
import Derived.ProofKit
import Derived.OpenShut
import Derived.ShutString
import Derived.ChangeOld
import Derived.Below
import Derived.SizedLaws
set_option linter.unusedVariables false
set_option linter.unusedSimpArgs false
set_option linter.unusedSectionVars false
namespace Go.Proofs.Ytmklimlepgiffaa.arenaPlays
open Go.ChangeShapes Go.WideShapes Go.ChangeAt Go.RowKit Go.Va
theorem own : ownKnob Try.prog.godebug = none := by kernel_rfl
theorem hlaw (ys : List AV) (hl : ys.length = [3, 41].length) (hw : ∀ (j : Nat) (t : Nat) (y : AV), [3, 41][j]? = some t → ys[j]? = some y → ArgWf Try.prog t y) :
    evl (envV realAr) (.call 7 ys []) = some (.ret (.s (.bool true)) []) := by
  match ys, hl with
  | [y, z], _ =>
    obtain ⟨room, rfl, -⟩ := arg_int (hw 0 3 y rfl rfl) Try.underlying3
    obtain ⟨zs, rfl, -, hz⟩ := arg_slice (hw 1 41 z rfl rfl) Try.underlying41
    obtain ⟨ds, rfl, hd⟩ := list_map (fun y h => deed_of h Try.underlying47 rfl Try.underlying3 (by kernel_rfl) (by kernel_rfl)) hz
    rw [show Try.prog.cellsOf 47 = 3 by kernel_rfl]
    exact ArInt.arenaPlays_law room ds hd
set_option maxRecDepth 100000 in
theorem lifted (os : Os) (started : os.Started) (H : Type) (enc : TypeId × Value → H) :
    ReturnsInHanded {} Try.checked os 7 .any (Rows.arenaPlaysSpec.pre6 enc Try.prog Try.f7 Rows.arenaPlaysRow.domain false) (Rows.arenaPlaysSpec.post enc Try.prog Try.f7 false true false false) := by
  refine returnsInHanded_of_change_sized (C := Try.checked) own started (by kernel_rfl) Try.func7
    (ChangeSpec.witness6 (enc := enc) (C := Try.checked) false ⟨#[], #[.int .i64 0, .slice none 0 0], []⟩ 8 (by kernel_rfl) (by kernel_rfl) (by kernel_rfl) (by kernel_rfl)) ?_
  intro W base args ds gs before hval hW _ _ _
  refine law_post env_ok (fun W => ext_ok W) (f := 7) (fn := Try.f7) (cd := bd7) rfl rfl (ts := [3, 41]) (tb := 4) (T := [3,4,41,47]) rfl rfl Try.underlying4 (by kernel_rfl) (by kernel_rfl) (by decide) rfl ?_ hlaw hval hW
  intro ds hds
  match ds, hds with
  | [d0, d1], _ => exact ⟨rfl, rfl, rfl⟩
theorem over : Rows.arenaPlaysRow.holds Try.pinned (OpenSpec.ofChange Rows.arenaPlaysSpec) :=
  OpenClaim.holds_of_wide 7 Try.f7 rfl rfl rfl rfl rfl rfl rfl ⟨rfl, rfl, rfl, rfl, rfl⟩ rfl rfl rfl rfl rfl (by kernel_rfl) Try.func7 (by kernel_rfl)
    (of_decide_eq_true (by kernel_rfl)) (by unfold Func.isWrapper; first | (rw [if_pos (by decide +kernel)]; kernel_rfl) | (rw [if_neg (by decide +kernel)]; exact ⟨rfl, rfl⟩))
    (fun os started H enc _ => lifted os started H enc)
theorem proved : Rows.ArenaPlaysSaid := over
#print axioms proved
end Go.Proofs.Ytmklimlepgiffaa.arenaPlays
namespace Go.Proofs.Ytmklimlepgiffaa
/-- The row, under a short name, for the claim. -/
theorem arenaPlays_holds : Rows.ArenaPlaysSaid := arenaPlays.proved
end Go.Proofs.Ytmklimlepgiffaa

/- The functions that the statement reaches, by equations: no statement of its own. -/
import Derived.Test.YtmklimlepgiffaaEq3
set_option linter.unusedVariables false
set_option linter.unusedSimpArgs false
set_option linter.unusedSectionVars false
namespace Go.Va
open Go.Proofs
set_option maxRecDepth 100000
theorem ext_ok (W : World) : ExtOk { P := Try.prog, w0 := W } (envV realAr) := by
  intro f e he E hE ys O r h
  have key : extT.Forall (fun f e => ∀ (E : Task → Option Res) ys O r, (e ys O).run E = some r → TaskOk { P := Try.prog, w0 := W } (.call f ys O) r) := by
    unfold extT
    simp only [Tr.Forall]
    refine ⟨fun E ys O r h => ?_, ⟨fun E ys O r h => ?_, trivial, trivial⟩, ⟨fun E ys O r h => ?_, trivial, trivial⟩⟩
    · exact store_ok (fn := Try.f98) Try.func98 (by kernel_rfl) (by kernel_rfl) (by kernel_rfl) (by rfl) h
    · exact add_ok (fn := Try.f97) Try.func97 (by kernel_rfl) (by kernel_rfl) (by kernel_rfl) (by rfl) h
    · exact load_ok (fn := Try.f99) Try.func99 (by kernel_rfl) (by kernel_rfl) (by kernel_rfl) (by rfl) h
  exact Tr.get_of key he E ys O r h
end Go.Va

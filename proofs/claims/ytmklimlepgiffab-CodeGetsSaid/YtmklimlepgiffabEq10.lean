/- The functions that the statement reaches, by equations: no statement of its own. -/
import Derived.Test.YtmklimlepgiffabEq9
set_option linter.unusedVariables false
set_option linter.unusedSimpArgs false
namespace Go.Va
open Go.Proofs
set_option maxRecDepth 100000
set_option maxHeartbeats 4000000
theorem s_law00_Code (e : Int) (he : e ∈ [1, 2, 3, 4, 5, 6, 7, 8, 9, 10, 11, 12, 13]) : evl (envV realAr) (.call 18 [errI e] []) = some (.ret (.s (.int .i64 e)) []) := by
  simp only [List.mem_cons, List.not_mem_nil, or_false] at he
  rcases he with rfl | rfl | rfl | rfl | rfl | rfl | rfl | rfl | rfl | rfl | rfl | rfl | rfl <;> exact evl_of (n := 60) (by kernel_rfl)
theorem s_law00_Code0 : evl (envV realAr) (.call 18 [.s .nilIface] []) = some (.ret (.s (.int .i64 0)) []) := evl_of (n := 60) (by kernel_rfl)
theorem s_law12_up : evl (envV realAr) (.call 15 [] []) = some (.ret (.s (.bool true)) []) := evl_of (n := 60) (by kernel_rfl)
end Go.Va

/- The call, run by the kernel over the evaluator. -/
import Derived.Test.YtdkkdfplkmfheaaGreatDoorSe
set_option linter.unusedSimpArgs false
set_option linter.unusedVariables false
namespace Go.Ev
noncomputable def tab64 : RL := [0, 1, 56, 2, 57, 49, 28, 3, 61, 58, 42, 50, 38, 29, 17, 4, 62, 47, 59, 36, 45, 43, 51, 22, 53, 39, 33, 30, 24, 18, 12, 5, 63, 55, 48, 27, 60, 41, 37, 16, 46, 35, 44, 21, 52, 32, 23, 11, 54, 26, 40, 15, 34, 20, 31, 10, 25, 14, 19, 9, 13, 8, 7, 6].map fun n => (1, .int .u8 (.ofNat n))
noncomputable def snBase : AW := { heap := T.set .e 2 (.ro tab64), next := 1000 }
noncomputable def isTrue (r : Option (AV × AW)) : Bool := oel false r fun p => oel false (dBool p.1) fun b => b
set_option maxRecDepth 1000000 in
set_option maxHeartbeats 0 in
theorem sn_run : isTrue ((iv sn 1000 60).call 3 [.opq 0, .opq 1, .opq 2] snBase) = true := by kernel_rfl
end Go.Ev

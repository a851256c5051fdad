/- TopTurns: runs of the second executor for 1, 2, 3, 4, 5. -/
import Derived.Test.YtamfoplfbidolaaGreatDoorOnf
namespace Go.Proofs.YtamfoplfbidolaaGreatDoorT
open Go Go.Proofs.YtamfoplfbidolaaGreatDoorE Go.Proofs.YtamfoplfbidolaaGreatDoorX Go.Proofs.YtamfoplfbidolaaGreatDoorG
set_option linter.unusedVariables false
set_option maxRecDepth 1000000
set_option maxHeartbeats 100000000

theorem turns_run1 : run3 (tab (tw 1 10 1)) 3000 q5 [.sym tg .i64 0 [1]] .lf .e 0 0 0 okR = true := by kernel_rfl
theorem turns_run2 : run3 (tab (tw 1 10 2)) 3000 q5 [.sym tg .i64 0 [1]] .lf .e 0 0 0 okR = true := by kernel_rfl
theorem turns_run3 : run3 (tab (tw 1 10 3)) 3000 q5 [.sym tg .i64 0 [1]] .lf .e 0 0 0 okR = true := by kernel_rfl
theorem turns_run4 : run3 (tab (tw 1 10 4)) 3000 q5 [.sym tg .i64 0 [1]] .lf .e 0 0 0 okR = true := by kernel_rfl
theorem turns_run5 : run3 (tab (tw 1 10 5)) 3000 q5 [.sym tg .i64 0 [1]] .lf .e 0 0 0 okR = true := by kernel_rfl
end Go.Proofs.YtamfoplfbidolaaGreatDoorT

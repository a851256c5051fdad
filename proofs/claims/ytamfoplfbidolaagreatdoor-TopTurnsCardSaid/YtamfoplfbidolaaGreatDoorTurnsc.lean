/- TopTurns: runs of the second executor for 9, 10. -/
import Derived.Test.YtamfoplfbidolaaGreatDoorOnf
namespace Go.Proofs.YtamfoplfbidolaaGreatDoorT
open Go Go.Proofs.YtamfoplfbidolaaGreatDoorE Go.Proofs.YtamfoplfbidolaaGreatDoorX Go.Proofs.YtamfoplfbidolaaGreatDoorG
set_option linter.unusedVariables false
set_option maxRecDepth 1000000
set_option maxHeartbeats 100000000

theorem turns_run9 : run3 (tab (tw 1 10 9)) 3000 q5 [.sym tg .i64 0 [1]] .lf .e 0 0 0 okR = true := by kernel_rfl
theorem turns_run10 : run3 (tab (tw 1 10 10)) 3000 q5 [.sym tg .i64 0 [1]] .lf .e 0 0 0 okR = true := by kernel_rfl
end Go.Proofs.YtamfoplfbidolaaGreatDoorT

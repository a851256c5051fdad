/- TopTurns: runs of the second executor for 6, 7, 8. -/
import Derived.Test.YtamfoplfbidolaaGreatDoorOnf
namespace Go.Proofs.YtamfoplfbidolaaGreatDoorT
open Go Go.Proofs.YtamfoplfbidolaaGreatDoorE Go.Proofs.YtamfoplfbidolaaGreatDoorX Go.Proofs.YtamfoplfbidolaaGreatDoorG
set_option linter.unusedVariables false
set_option maxRecDepth 1000000
set_option maxHeartbeats 100000000

theorem turns_run6 : run3 (tab (tw 1 10 6)) 3000 q5 [.sym tg .i64 0 [1]] .lf .e 0 0 0 okR = true := by kernel_rfl
theorem turns_run7 : run3 (tab (tw 1 10 7)) 3000 q5 [.sym tg .i64 0 [1]] .lf .e 0 0 0 okR = true := by kernel_rfl
theorem turns_run8 : run3 (tab (tw 1 10 8)) 3000 q5 [.sym tg .i64 0 [1]] .lf .e 0 0 0 okR = true := by kernel_rfl
end Go.Proofs.YtamfoplfbidolaaGreatDoorT

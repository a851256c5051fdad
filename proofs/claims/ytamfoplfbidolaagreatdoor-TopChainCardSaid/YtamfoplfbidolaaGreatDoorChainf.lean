/- TopChain: runs of the second executor for 19, 20. -/
import Derived.Test.YtamfoplfbidolaaGreatDoorOnf
namespace Go.Proofs.YtamfoplfbidolaaGreatDoorT
open Go Go.Proofs.YtamfoplfbidolaaGreatDoorE Go.Proofs.YtamfoplfbidolaaGreatDoorX Go.Proofs.YtamfoplfbidolaaGreatDoorG
set_option linter.unusedVariables false
set_option maxRecDepth 1000000
set_option maxHeartbeats 100000000

theorem chain_run19 : run3 (tab (tw 2 20 19)) 3000 q6 [.sym tg .i64 0 [1]] .lf .e 0 0 0 okR = true := by kernel_rfl
theorem chain_run20 : run3 (tab (tw 2 20 20)) 3000 q6 [.sym tg .i64 0 [1]] .lf .e 0 0 0 okR = true := by kernel_rfl
end Go.Proofs.YtamfoplfbidolaaGreatDoorT

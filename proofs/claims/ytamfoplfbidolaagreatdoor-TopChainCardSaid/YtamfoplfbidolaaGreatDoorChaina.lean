/- TopChain: runs of the second executor for 2, 3, 4, 5, 6, 7. -/
import Derived.Test.YtamfoplfbidolaaGreatDoorOnf
namespace Go.Proofs.YtamfoplfbidolaaGreatDoorT
open Go Go.Proofs.YtamfoplfbidolaaGreatDoorE Go.Proofs.YtamfoplfbidolaaGreatDoorX Go.Proofs.YtamfoplfbidolaaGreatDoorG
set_option linter.unusedVariables false
set_option maxRecDepth 1000000
set_option maxHeartbeats 100000000

theorem chain_run2 : run3 (tab (tw 2 20 2)) 3000 q6 [.sym tg .i64 0 [1]] .lf .e 0 0 0 okR = true := by kernel_rfl
theorem chain_run3 : run3 (tab (tw 2 20 3)) 3000 q6 [.sym tg .i64 0 [1]] .lf .e 0 0 0 okR = true := by kernel_rfl
theorem chain_run4 : run3 (tab (tw 2 20 4)) 3000 q6 [.sym tg .i64 0 [1]] .lf .e 0 0 0 okR = true := by kernel_rfl
theorem chain_run5 : run3 (tab (tw 2 20 5)) 3000 q6 [.sym tg .i64 0 [1]] .lf .e 0 0 0 okR = true := by kernel_rfl
theorem chain_run6 : run3 (tab (tw 2 20 6)) 3000 q6 [.sym tg .i64 0 [1]] .lf .e 0 0 0 okR = true := by kernel_rfl
theorem chain_run7 : run3 (tab (tw 2 20 7)) 3000 q6 [.sym tg .i64 0 [1]] .lf .e 0 0 0 okR = true := by kernel_rfl
end Go.Proofs.YtamfoplfbidolaaGreatDoorT

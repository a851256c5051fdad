/- TopOnly: runs of the second executor for 0. -/
import Derived.Test.YtnoclbkoklknnaaGreatDoorOnf
namespace Go.Proofs.YtnoclbkoklknnaaGreatDoorT
open Go Go.Proofs.YtnoclbkoklknnaaGreatDoorE Go.Proofs.YtnoclbkoklknnaaGreatDoorX Go.Proofs.YtnoclbkoklknnaaGreatDoorG
set_option linter.unusedVariables false
set_option maxRecDepth 1000000
set_option maxHeartbeats 100000000

theorem only_run0 : run3 (tab (tw 0 2 0) []) 3000 q5 [.sym tg .i64 0 [1]] .lf .e 0 0 0 okR = true := by kernel_rfl
end Go.Proofs.YtnoclbkoklknnaaGreatDoorT

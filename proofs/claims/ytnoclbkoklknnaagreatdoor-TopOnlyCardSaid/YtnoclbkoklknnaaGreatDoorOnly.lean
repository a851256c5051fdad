/- TopOnly: for every input the function answers true: a run of the second executor for each number from 0 to 2. -/
import Derived.Test.YtnoclbkoklknnaaGreatDoorOnlya
import Derived.Test.YtnoclbkoklknnaaGreatDoorOnlyb
import Derived.Test.YtnoclbkoklknnaaGreatDoorOnlyc
namespace Go.Proofs.YtnoclbkoklknnaaGreatDoorT
open Go Go.Proofs.YtnoclbkoklknnaaGreatDoorE Go.Proofs.YtnoclbkoklknnaaGreatDoorX Go.Proofs.YtnoclbkoklknnaaGreatDoorG
set_option linter.unusedVariables false
set_option maxRecDepth 1000000
set_option maxHeartbeats 100000000

theorem only_law (a0 : Int) (w0 : (Lit.int .i64 a0).wf = true) : Yes (compF Tryz.prog) 5 [.int .i64 a0] Mem.empty 0 := by
  refine one_lawF (fu := 3000) (f := 5) (p := q5) rfl 0 2 (by omega) (by omega) (by omega) (fun k h1 h2 => ?_) a0 w0
  have hk : k = 0 ∨ k = 1 ∨ k = 2 := by omega
  rcases hk with rfl | rfl | rfl
  · exact only_run0
  · exact only_run1
  · exact only_run2
end Go.Proofs.YtnoclbkoklknnaaGreatDoorT

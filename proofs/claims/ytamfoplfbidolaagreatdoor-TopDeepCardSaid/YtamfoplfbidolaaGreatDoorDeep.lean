/- TopDeep: for every input the function answers true: a run of the second executor for each number from 0 to 3. -/
import Derived.Test.YtamfoplfbidolaaGreatDoorOne
namespace Go.Proofs.YtamfoplfbidolaaGreatDoorT
open Go Go.Proofs.YtamfoplfbidolaaGreatDoorE Go.Proofs.YtamfoplfbidolaaGreatDoorX Go.Proofs.YtamfoplfbidolaaGreatDoorG
set_option linter.unusedVariables false
set_option maxRecDepth 1000000

theorem deep_run0 : run3 (tab (tw 0 3 0)) 600 q4 [.sym tg .i64 0 [1]] .lf .e 0 0 0 okR = true := by kernel_rfl
theorem deep_run1 : run3 (tab (tw 0 3 1)) 600 q4 [.sym tg .i64 0 [1]] .lf .e 0 0 0 okR = true := by kernel_rfl
theorem deep_run2 : run3 (tab (tw 0 3 2)) 600 q4 [.sym tg .i64 0 [1]] .lf .e 0 0 0 okR = true := by kernel_rfl
theorem deep_run3 : run3 (tab (tw 0 3 3)) 600 q4 [.sym tg .i64 0 [1]] .lf .e 0 0 0 okR = true := by kernel_rfl
theorem deep_law (a0 : Int) (w0 : (Lit.int .i64 a0).wf = true) : Yes (compF Tryz.prog) 4 [.int .i64 a0] Mem.empty 0 := by
  refine one_law (f := 4) (p := q4) rfl 0 3 (by omega) (by omega) (by omega) (fun k h1 h2 => ?_) a0 w0
  have hk : k = 0 ∨ k = 1 ∨ k = 2 ∨ k = 3 := by omega
  rcases hk with rfl | rfl | rfl | rfl
  · exact deep_run0
  · exact deep_run1
  · exact deep_run2
  · exact deep_run3
end Go.Proofs.YtamfoplfbidolaaGreatDoorT

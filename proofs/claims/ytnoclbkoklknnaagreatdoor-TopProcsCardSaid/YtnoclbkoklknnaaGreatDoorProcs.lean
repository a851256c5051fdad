/- TopProcs: for every input the function answers true: a run of the second executor for each number from 1 to 8. -/
import Derived.Test.YtnoclbkoklknnaaGreatDoorOne
namespace Go.Proofs.YtnoclbkoklknnaaGreatDoorT
open Go Go.Proofs.YtnoclbkoklknnaaGreatDoorE Go.Proofs.YtnoclbkoklknnaaGreatDoorX Go.Proofs.YtnoclbkoklknnaaGreatDoorG
set_option linter.unusedVariables false
set_option maxRecDepth 1000000

theorem procs_run1 : run3 (tab (tw 1 8 1) []) 600 q3 [.sym tg .i64 0 [1]] .lf .e 0 0 0 okR = true := by kernel_rfl
theorem procs_run2 : run3 (tab (tw 1 8 2) []) 600 q3 [.sym tg .i64 0 [1]] .lf .e 0 0 0 okR = true := by kernel_rfl
theorem procs_run3 : run3 (tab (tw 1 8 3) []) 600 q3 [.sym tg .i64 0 [1]] .lf .e 0 0 0 okR = true := by kernel_rfl
theorem procs_run4 : run3 (tab (tw 1 8 4) []) 600 q3 [.sym tg .i64 0 [1]] .lf .e 0 0 0 okR = true := by kernel_rfl
theorem procs_run5 : run3 (tab (tw 1 8 5) []) 600 q3 [.sym tg .i64 0 [1]] .lf .e 0 0 0 okR = true := by kernel_rfl
theorem procs_run6 : run3 (tab (tw 1 8 6) []) 600 q3 [.sym tg .i64 0 [1]] .lf .e 0 0 0 okR = true := by kernel_rfl
theorem procs_run7 : run3 (tab (tw 1 8 7) []) 600 q3 [.sym tg .i64 0 [1]] .lf .e 0 0 0 okR = true := by kernel_rfl
theorem procs_run8 : run3 (tab (tw 1 8 8) []) 600 q3 [.sym tg .i64 0 [1]] .lf .e 0 0 0 okR = true := by kernel_rfl
theorem procs_law (a0 : Int) (w0 : (Lit.int .i64 a0).wf = true) : Yes (compF Tryz.prog) 3 [.int .i64 a0] Mem.empty 0 := by
  refine one_law (f := 3) (p := q3) rfl 1 8 (by omega) (by omega) (by omega) (fun k h1 h2 => ?_) a0 w0
  have hk : k = 1 ∨ k = 2 ∨ k = 3 ∨ k = 4 ∨ k = 5 ∨ k = 6 ∨ k = 7 ∨ k = 8 := by omega
  rcases hk with rfl | rfl | rfl | rfl | rfl | rfl | rfl | rfl
  · exact procs_run1
  · exact procs_run2
  · exact procs_run3
  · exact procs_run4
  · exact procs_run5
  · exact procs_run6
  · exact procs_run7
  · exact procs_run8
end Go.Proofs.YtnoclbkoklknnaaGreatDoorT

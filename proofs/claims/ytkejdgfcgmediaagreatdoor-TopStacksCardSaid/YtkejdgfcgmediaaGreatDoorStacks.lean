/- TopStacks: for every input the function answers true: a run of the second executor for each number from 1 to 12. -/
import Derived.Test.YtkejdgfcgmediaaGreatDoorOne
namespace Go.Proofs.YtkejdgfcgmediaaGreatDoorT
open Go Go.Proofs.YtkejdgfcgmediaaGreatDoorE Go.Proofs.YtkejdgfcgmediaaGreatDoorX Go.Proofs.YtkejdgfcgmediaaGreatDoorG
set_option linter.unusedVariables false
set_option maxRecDepth 1000000

theorem stacks_run1 : okR (run3 (tab (tw 1 12 1)) 600 q6 [.sym tg .i64 0 [1]] .lf .e 0 0 0) = true := by kernel_rfl
theorem stacks_run2 : okR (run3 (tab (tw 1 12 2)) 600 q6 [.sym tg .i64 0 [1]] .lf .e 0 0 0) = true := by kernel_rfl
theorem stacks_run3 : okR (run3 (tab (tw 1 12 3)) 600 q6 [.sym tg .i64 0 [1]] .lf .e 0 0 0) = true := by kernel_rfl
theorem stacks_run4 : okR (run3 (tab (tw 1 12 4)) 600 q6 [.sym tg .i64 0 [1]] .lf .e 0 0 0) = true := by kernel_rfl
theorem stacks_run5 : okR (run3 (tab (tw 1 12 5)) 600 q6 [.sym tg .i64 0 [1]] .lf .e 0 0 0) = true := by kernel_rfl
theorem stacks_run6 : okR (run3 (tab (tw 1 12 6)) 600 q6 [.sym tg .i64 0 [1]] .lf .e 0 0 0) = true := by kernel_rfl
theorem stacks_run7 : okR (run3 (tab (tw 1 12 7)) 600 q6 [.sym tg .i64 0 [1]] .lf .e 0 0 0) = true := by kernel_rfl
theorem stacks_run8 : okR (run3 (tab (tw 1 12 8)) 600 q6 [.sym tg .i64 0 [1]] .lf .e 0 0 0) = true := by kernel_rfl
theorem stacks_run9 : okR (run3 (tab (tw 1 12 9)) 600 q6 [.sym tg .i64 0 [1]] .lf .e 0 0 0) = true := by kernel_rfl
theorem stacks_run10 : okR (run3 (tab (tw 1 12 10)) 600 q6 [.sym tg .i64 0 [1]] .lf .e 0 0 0) = true := by kernel_rfl
theorem stacks_run11 : okR (run3 (tab (tw 1 12 11)) 600 q6 [.sym tg .i64 0 [1]] .lf .e 0 0 0) = true := by kernel_rfl
theorem stacks_run12 : okR (run3 (tab (tw 1 12 12)) 600 q6 [.sym tg .i64 0 [1]] .lf .e 0 0 0) = true := by kernel_rfl
theorem stacks_law (a0 : Int) (w0 : (Lit.int .i64 a0).wf = true) : Yes (compF Tryz.prog) 6 [.int .i64 a0] Mem.empty 0 := by
  refine one_law (f := 6) (p := q6) rfl 1 12 (by omega) (by omega) (by omega) (fun k h1 h2 => ?_) a0 w0
  have hk : k = 1 ∨ k = 2 ∨ k = 3 ∨ k = 4 ∨ k = 5 ∨ k = 6 ∨ k = 7 ∨ k = 8 ∨ k = 9 ∨ k = 10 ∨ k = 11 ∨ k = 12 := by omega
  rcases hk with rfl | rfl | rfl | rfl | rfl | rfl | rfl | rfl | rfl | rfl | rfl | rfl
  · exact stacks_run1
  · exact stacks_run2
  · exact stacks_run3
  · exact stacks_run4
  · exact stacks_run5
  · exact stacks_run6
  · exact stacks_run7
  · exact stacks_run8
  · exact stacks_run9
  · exact stacks_run10
  · exact stacks_run11
  · exact stacks_run12
end Go.Proofs.YtkejdgfcgmediaaGreatDoorT

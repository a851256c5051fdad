/- TopTurns: for every input the function answers true: a run of the second executor for each number from 1 to 10. -/
import Derived.Test.YtamfoplfbidolaaGreatDoorTurnsa
import Derived.Test.YtamfoplfbidolaaGreatDoorTurnsb
import Derived.Test.YtamfoplfbidolaaGreatDoorTurnsc
namespace Go.Proofs.YtamfoplfbidolaaGreatDoorT
open Go Go.Proofs.YtamfoplfbidolaaGreatDoorE Go.Proofs.YtamfoplfbidolaaGreatDoorX Go.Proofs.YtamfoplfbidolaaGreatDoorG
set_option linter.unusedVariables false
set_option maxRecDepth 1000000
set_option maxHeartbeats 100000000

theorem turns_law (a0 : Int) (w0 : (Lit.int .i64 a0).wf = true) : Yes (compF Tryz.prog) 5 [.int .i64 a0] Mem.empty 0 := by
  refine one_lawF (fu := 3000) (f := 5) (p := q5) rfl 1 10 (by omega) (by omega) (by omega) (fun k h1 h2 => ?_) a0 w0
  have hk : k = 1 ∨ k = 2 ∨ k = 3 ∨ k = 4 ∨ k = 5 ∨ k = 6 ∨ k = 7 ∨ k = 8 ∨ k = 9 ∨ k = 10 := by omega
  rcases hk with rfl | rfl | rfl | rfl | rfl | rfl | rfl | rfl | rfl | rfl
  · exact turns_run1
  · exact turns_run2
  · exact turns_run3
  · exact turns_run4
  · exact turns_run5
  · exact turns_run6
  · exact turns_run7
  · exact turns_run8
  · exact turns_run9
  · exact turns_run10
end Go.Proofs.YtamfoplfbidolaaGreatDoorT

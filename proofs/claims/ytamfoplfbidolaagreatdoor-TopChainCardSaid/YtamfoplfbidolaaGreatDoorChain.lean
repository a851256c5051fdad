/- TopChain: for every input the function answers true: a run of the second executor for each number from 2 to 20. -/
import Derived.Test.YtamfoplfbidolaaGreatDoorChaina
import Derived.Test.YtamfoplfbidolaaGreatDoorChainb
import Derived.Test.YtamfoplfbidolaaGreatDoorChainc
import Derived.Test.YtamfoplfbidolaaGreatDoorChaind
import Derived.Test.YtamfoplfbidolaaGreatDoorChaine
import Derived.Test.YtamfoplfbidolaaGreatDoorChainf
namespace Go.Proofs.YtamfoplfbidolaaGreatDoorT
open Go Go.Proofs.YtamfoplfbidolaaGreatDoorE Go.Proofs.YtamfoplfbidolaaGreatDoorX Go.Proofs.YtamfoplfbidolaaGreatDoorG
set_option linter.unusedVariables false
set_option maxRecDepth 1000000
set_option maxHeartbeats 100000000

theorem chain_law (a0 : Int) (w0 : (Lit.int .i64 a0).wf = true) : Yes (compF Tryz.prog) 6 [.int .i64 a0] Mem.empty 0 := by
  refine one_lawF (fu := 3000) (f := 6) (p := q6) rfl 2 20 (by omega) (by omega) (by omega) (fun k h1 h2 => ?_) a0 w0
  have hk : k = 2 ∨ k = 3 ∨ k = 4 ∨ k = 5 ∨ k = 6 ∨ k = 7 ∨ k = 8 ∨ k = 9 ∨ k = 10 ∨ k = 11 ∨ k = 12 ∨ k = 13 ∨ k = 14 ∨ k = 15 ∨ k = 16 ∨ k = 17 ∨ k = 18 ∨ k = 19 ∨ k = 20 := by omega
  rcases hk with rfl | rfl | rfl | rfl | rfl | rfl | rfl | rfl | rfl | rfl | rfl | rfl | rfl | rfl | rfl | rfl | rfl | rfl | rfl
  · exact chain_run2
  · exact chain_run3
  · exact chain_run4
  · exact chain_run5
  · exact chain_run6
  · exact chain_run7
  · exact chain_run8
  · exact chain_run9
  · exact chain_run10
  · exact chain_run11
  · exact chain_run12
  · exact chain_run13
  · exact chain_run14
  · exact chain_run15
  · exact chain_run16
  · exact chain_run17
  · exact chain_run18
  · exact chain_run19
  · exact chain_run20
end Go.Proofs.YtamfoplfbidolaaGreatDoorT

/- The row of the law CostBound: its walk is the engine's run (printed by mkRow.py after the kit's own print of rows). -/
import Derived.Test.YtkofebojphfefaaRows
import Derived.Test.YtkofebojphfefaaNumbers
import Derived.WalkKit
import Derived.ProofKit
import Derived.OpenShut
import Derived.ShutString
import Derived.ChangeOld
import Derived.Below
import Derived.SizedLaws
import Derived.Test.YtkofebojphfefaaE26
namespace Go.Proofs.Ytkofebojphfefaa.costBound
open Go.ChangeShapes Go.WideShapes Go.ChangeAt Go.RowKit
open Go.ChangeMaps (open_string shut_string)
open Go.Proofs.YtkofebojphfefaaE (Arg Mem IsRow IRow law_calls row_irow Yes rowArg Leaf LeavesV IsRows SRow)
set_option linter.unusedVariables false
theorem own : ownKnob Try.prog.godebug = none := by kernel_rfl
theorem laidOut : laidOutB Try.prog = true := by kernel_rfl
/-- The engine runs it. -/
theorem walk (w : World) (a0 : List Value) (x0 : List Go.Proofs.YtkofebojphfefaaE.AV) (e0 : Go.Proofs.YtkofebojphfefaaE.ofVals a0 = some x0) (w0 : LeavesV [(.i .i64), (.i .i64), (.i .i64), (.i .i64), (.i .i64)] x0) (a1 : List Value) (x1 : List Go.Proofs.YtkofebojphfefaaE.AV) (e1 : Go.Proofs.YtkofebojphfefaaE.ofVals a1 = some x1) (w1 : LeavesV [(.i .i64), (.i .i64), (.i .i64), (.i .i64), (.i .i64)] x1) (a2 : Int) (w2 : (Lit.int .i64 a2).wf = true) :
    Calls Try.prog 5 #[.agg a0.toArray, .agg a1.toArray, .int .i64 a2] w fun e w' => e = .returned (.bool true) ∧ Below w.heap.size w w' := by
  obtain ⟨fuel, h', n', tc, wr, e⟩ := Go.Proofs.YtkofebojphfefaaT.bound_law x0 w0 x1 w1 a2 w2 _ 0 
  exact law_calls Go.Proofs.YtkofebojphfefaaT.T_ok 5 [.agg x0 a0, .agg x1 a1, .int .i64 a2] w (by
    intro a ha
    simp only [List.mem_cons, List.mem_nil_iff, or_false] at ha
    rcases ha with rfl | rfl | rfl
    · exact fun m => Go.Proofs.YtkofebojphfefaaE.VRs.of_vals m e0
    · exact fun m => Go.Proofs.YtkofebojphfefaaE.VRs.of_vals m e1
    · exact trivial) e
set_option maxRecDepth 100000 in
theorem lifted (os : Os) (started : os.Started) (H : Type) (enc : TypeId × Value → H) :
    ReturnsInHanded {} Try.checked os 5 .any (Rows.costBoundSpec.pre6 enc Try.prog Try.f5 Rows.costBoundRow.domain false) (Rows.costBoundSpec.post enc Try.prog Try.f5 false true false false) := by
  refine returnsInHanded_of_change_sized (C := Try.checked) own started (by kernel_rfl) Try.func5
    (ChangeSpec.witness6 (enc := enc) (C := Try.checked) false ⟨#[], #[.agg #[.int .i64 0, .int .i64 0, .int .i64 0, .int .i64 0, .int .i64 0], .agg #[.int .i64 0, .int .i64 0, .int .i64 0, .int .i64 0, .int .i64 0], .int .i64 0], []⟩ 8 (by kernel_rfl) (by kernel_rfl) (by kernel_rfl) (by kernel_rfl)) ?_
  intro W base args ds gs before hval0 hW hcnd hsz0 _
  have hsz : (DataW.weightsEach Try.prog (Try.f5.params.toList ++ Rows.costBoundSpec.plain.varTypes Try.prog) (ds ++ gs)).all (· ≤ reachBytes) = true := hsz0
  have hval : ∀ (j : Nat) t v, Try.f5.params[j]? = some t → args[j]? = some v → Value.okWide Try.prog W .any base t v := hval0
  have hW' := hW
  obtain ⟨p, q, hA0, hV, rfl, hfz, hnd⟩ := hW
  have hA : DataW.TrodAll enc Try.prog W 0 (fun _ => true) true Try.f5.params.toList args.toList ds p := hA0
  rw [Try.params5] at hA hval hsz
  obtain ⟨v0, vs0, d0, ds0, p0, q0, hargs, rfl, rfl, h0, r0⟩ := trodAll_cons hA
  obtain ⟨v1, vs1, d1, ds1, p1, q1, rfl, rfl, rfl, h1, r1⟩ := trodAll_cons r0
  obtain ⟨v2, vs2, d2, ds2, p2, q2, rfl, rfl, rfl, h2, r2⟩ := trodAll_cons r1
  obtain ⟨rfl, rfl, rfl⟩ := trodAll_nil r2
  obtain rfl : args = #[v0, v1, v2] := by cases args; simp_all
  obtain ⟨rfl, rfl⟩ := trodVars_none hV
  obtain ⟨a0, rfl⟩ := Go.Proofs.YtkofebojphfefaaE.agg_of_okWide (hval 0 23 v0 rfl rfl) (by kernel_rfl)
  have k0 := h0
  have lt0 : ∀ x ∈ p0, x.block < W.heap.size := by obtain ⟨m, hm⟩ := k0; exact DataW.trod_lt m _ _ _ hm
  obtain ⟨x0, e0, w0⟩ := Go.Proofs.YtkofebojphfefaaE.open_plain (d := 8) (ks := [(.i .i64), (.i .i64), (.i .i64), (.i .i64), (.i .i64)]) (by kernel_rfl) h0
  obtain ⟨a1, rfl⟩ := Go.Proofs.YtkofebojphfefaaE.agg_of_okWide (hval 1 23 v1 rfl rfl) (by kernel_rfl)
  have k1 := h1
  have lt1 : ∀ x ∈ p1, x.block < W.heap.size := by obtain ⟨m, hm⟩ := k1; exact DataW.trod_lt m _ _ _ hm
  obtain ⟨x1, e1, w1⟩ := Go.Proofs.YtkofebojphfefaaE.open_plain (d := 8) (ks := [(.i .i64), (.i .i64), (.i .i64), (.i .i64), (.i .i64)]) (by kernel_rfl) h1
  obtain ⟨a2, rfl, rfl, rfl, w2⟩ := open_int Try.underlying3 (hval 2 3 v2 rfl rfl) h2
  clear hA0 hval0 hsz0 hsz
  refine (walk W a0 x0 e0 w0 a1 x1 e1 w1 a2 w2).mono fun e W' ⟨he, bel⟩ => ?_
  subst he
  exact ⟨_, rfl, _, _, _, [], _, [], hW', trodAll_mk1 (shut_bool Try.underlying4 _), (trodAll_cons_mk (Below.trod laidOut (by kernel_rfl) (of_decide_eq_true (by kernel_rfl)) k0 bel lt0) (trodAll_cons_mk (Below.trod laidOut (by kernel_rfl) (of_decide_eq_true (by kernel_rfl)) k1 bel lt1) (trodAll_cons_mk (shut_int Try.underlying3 w2) trodAll_mk0))), rfl, bel.frame _, fun h => by cases h⟩
theorem over : Rows.costBoundRow.holds Try.pinned (OpenSpec.ofChange Rows.costBoundSpec) :=
  OpenClaim.holds_of_wide 5 Try.f5 rfl rfl rfl rfl rfl rfl rfl ⟨rfl, rfl, rfl, rfl, rfl⟩ rfl rfl rfl rfl rfl (by kernel_rfl) Try.func5 (by kernel_rfl)
    (of_decide_eq_true (by kernel_rfl)) (by unfold Func.isWrapper; first | (rw [if_pos (by decide +kernel)]; kernel_rfl) | (rw [if_neg (by decide +kernel)]; exact ⟨rfl, rfl⟩))
    (fun os started H enc _ => lifted os started H enc)
theorem proved : Rows.CostBoundSaid := over
#print axioms proved
end Go.Proofs.Ytkofebojphfefaa.costBound
namespace Go.Proofs.Ytkofebojphfefaa
/-- The row, under a short name, for the claim. -/
theorem costBound_holds : Rows.CostBoundSaid := costBound.proved
end Go.Proofs.Ytkofebojphfefaa

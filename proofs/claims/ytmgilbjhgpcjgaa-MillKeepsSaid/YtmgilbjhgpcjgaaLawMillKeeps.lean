/- The row of the law MillKeeps: its walk is the engine's run (printed by mkRow.py after the kit's own print of rows). -/
import Derived.Test.YtmgilbjhgpcjgaaRows
import Derived.Test.YtmgilbjhgpcjgaaKeeps
import Derived.WalkKit
import Derived.ProofKit
import Derived.OpenShut
import Derived.ShutString
import Derived.ChangeOld
import Derived.Below
import Derived.SizedLaws
import Derived.Test.YtmgilbjhgpcjgaaE26
namespace Go.Proofs.Ytmgilbjhgpcjgaa.millKeeps
open Go.ChangeShapes Go.WideShapes Go.ChangeAt Go.RowKit
open Go.ChangeMaps (open_string shut_string)
open Go.Proofs.YtmgilbjhgpcjgaaE (Arg Mem IsRow IRow law_calls row_irow Yes rowArg Leaf LeavesV IsRows SRow)
set_option linter.unusedVariables false
theorem own : ownKnob Try.prog.godebug = none := by kernel_rfl
theorem laidOut : laidOutB Try.prog = true := by kernel_rfl
/-- The engine runs it. -/
theorem walk (w : World) (a0 : Int) (w0 : (Lit.int .i64 a0).wf = true) (a1 : Option Addr) (len1 cap1 : Nat) (z1 : List (List Go.Proofs.YtmgilbjhgpcjgaaE.AV)) (w1 : IsRows [(.i .i64), (.i .i64)] w a1 len1 cap1 z1) (y1 : len1 * 16 ≤ 140737488351232) :
    Calls Try.prog 5 #[.int .i64 a0, .slice a1 len1 cap1] w fun e w' => e = .returned (.bool true) ∧ Below w.heap.size w w' := by
  rcases w1 with ⟨rfl, rfl, rfl, rfl⟩ | ⟨x1, rfl, h11, h12, h13, h14, h15⟩
  · obtain ⟨fuel, h', n', tc, wr, e⟩ := Go.Proofs.YtmgilbjhgpcjgaaT.keeps_law a0 w0 [] _ (Nat.zero_le _) (fun _ h => nomatch h) _ 0 (.inl ⟨rfl, rfl⟩)
    exact law_calls Go.Proofs.YtmgilbjhgpcjgaaT.T_ok 5 [.int .i64 a0, .nilrow] w (by
      intro a ha
      simp only [List.mem_cons, List.mem_nil_iff, or_false] at ha
      rcases ha with rfl | rfl
      · exact trivial
      · exact trivial) e
  · obtain ⟨fuel, h', n', tc, wr, e⟩ := Go.Proofs.YtmgilbjhgpcjgaaT.keeps_law a0 w0 (z1.take len1) _ (by rw [List.length_take]; omega) (fun z hz => h14 z (List.mem_of_mem_take hz)) _ 1 (Go.Proofs.YtmgilbjhgpcjgaaE.row_srow (ks := [(.i .i64), (.i .i64)]) (n := 0) (nx := 1) h11 h13 h14 Mem.empty (by decide))
    exact law_calls Go.Proofs.YtmgilbjhgpcjgaaT.T_ok 5 [.int .i64 a0, .row x1 len1 cap1 2 z1.flatten] w (by
      intro a ha
      simp only [List.mem_cons, List.mem_nil_iff, or_false] at ha
      rcases ha with rfl | rfl
      · exact trivial
      · exact Go.Proofs.YtmgilbjhgpcjgaaE.IsRows.ok (ks := [(.i .i64), (.i .i64)]) (by decide) h11 h13 h14 h15) e
set_option maxRecDepth 100000 in
theorem lifted (os : Os) (started : os.Started) (H : Type) (enc : TypeId × Value → H) :
    ReturnsInHanded {} Try.checked os 5 .any (Rows.millKeepsSpec.pre6 enc Try.prog Try.f5 Rows.millKeepsRow.domain false) (Rows.millKeepsSpec.post enc Try.prog Try.f5 false true false false) := by
  refine returnsInHanded_of_change_sized (C := Try.checked) own started (by kernel_rfl) Try.func5
    (ChangeSpec.witness6 (enc := enc) (C := Try.checked) false ⟨#[], #[.int .i64 0, .slice none 0 0], []⟩ 8 (by kernel_rfl) (by kernel_rfl) (by kernel_rfl) (by kernel_rfl)) ?_
  intro W base args ds gs before hval0 hW hcnd hsz0 _
  have hsz : (DataW.weightsEach Try.prog (Try.f5.params.toList ++ Rows.millKeepsSpec.plain.varTypes Try.prog) (ds ++ gs)).all (· ≤ reachBytes) = true := hsz0
  have hval : ∀ (j : Nat) t v, Try.f5.params[j]? = some t → args[j]? = some v → Value.okWide Try.prog W .any base t v := hval0
  have hW' := hW
  obtain ⟨p, q, hA0, hV, rfl, hfz, hnd⟩ := hW
  have hA : DataW.TrodAll enc Try.prog W 0 (fun _ => true) true Try.f5.params.toList args.toList ds p := hA0
  rw [Try.params5] at hA hval hsz
  obtain ⟨v0, vs0, d0, ds0, p0, q0, hargs, rfl, rfl, h0, r0⟩ := trodAll_cons hA
  obtain ⟨v1, vs1, d1, ds1, p1, q1, rfl, rfl, rfl, h1, r1⟩ := trodAll_cons r0
  obtain ⟨rfl, rfl, rfl⟩ := trodAll_nil r1
  obtain rfl : args = #[v0, v1] := by cases args; simp_all
  obtain ⟨rfl, rfl⟩ := trodVars_none hV
  obtain ⟨a0, rfl, rfl, rfl, w0⟩ := open_int Try.underlying3 (hval 0 3 v0 rfl rfl) h0
  obtain ⟨a1, len1, cap1, rfl⟩ := okWide_slice Try.underlying22 (hval 1 22 v1 rfl rfl)
  have k1 := h1
  have lt1 : ∀ x ∈ p1, x.block < W.heap.size := by obtain ⟨m, hm⟩ := k1; exact DataW.trod_lt m _ _ _ hm
  obtain ⟨z1, w1⟩ := Go.Proofs.YtmgilbjhgpcjgaaE.open_prows Try.underlying22 (d := 8) (ks := [(.i .i64), (.i .i64)]) (by kernel_rfl) h1
  have y1 : len1 * 16 ≤ 140737488351232 := Go.Proofs.YtmgilbjhgpcjgaaE.sized_any hsz (j := 1) (t := 22) rfl rfl Try.underlying22 (by kernel_rfl) h1
  clear hA0 hval0 hsz0 hsz
  refine (walk W a0 w0 a1 len1 cap1 z1 w1 y1).mono fun e W' ⟨he, bel⟩ => ?_
  subst he
  exact ⟨_, rfl, _, _, _, [], _, [], hW', trodAll_mk1 (shut_bool Try.underlying4 _), (trodAll_cons_mk (shut_int Try.underlying3 w0) (trodAll_cons_mk (Below.trod laidOut (by kernel_rfl) (of_decide_eq_true (by kernel_rfl)) k1 bel lt1) trodAll_mk0)), rfl, bel.frame _, fun h => by cases h⟩
theorem over : Rows.millKeepsRow.holds Try.pinned (OpenSpec.ofChange Rows.millKeepsSpec) :=
  OpenClaim.holds_of_wide 5 Try.f5 rfl rfl rfl rfl rfl rfl rfl ⟨rfl, rfl, rfl, rfl, rfl⟩ rfl rfl rfl rfl rfl (by kernel_rfl) Try.func5 (by kernel_rfl)
    (of_decide_eq_true (by kernel_rfl)) (by unfold Func.isWrapper; first | (rw [if_pos (by decide +kernel)]; kernel_rfl) | (rw [if_neg (by decide +kernel)]; exact ⟨rfl, rfl⟩))
    (fun os started H enc _ => lifted os started H enc)
theorem proved : Rows.MillKeepsSaid := over
#print axioms proved
end Go.Proofs.Ytmgilbjhgpcjgaa.millKeeps
namespace Go.Proofs.Ytmgilbjhgpcjgaa
/-- The row, under a short name, for the claim. -/
theorem millKeeps_holds : Rows.MillKeepsSaid := millKeeps.proved
end Go.Proofs.Ytmgilbjhgpcjgaa

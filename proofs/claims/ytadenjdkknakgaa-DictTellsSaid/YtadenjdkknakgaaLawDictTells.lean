/- The row of the law DictTells: its walk is the engine's run (printed by mkRow.py after the kit's own print of rows). -/
import Derived.Test.YtadenjdkknakgaaRows
import Derived.Test.YtadenjdkknakgaaTells
import Derived.WalkKit
import Derived.ProofKit
import Derived.OpenShut
import Derived.ShutString
import Derived.ChangeOld
import Derived.Below
import Derived.SizedLaws
import Derived.Test.YtadenjdkknakgaaE26
namespace Go.Proofs.Ytadenjdkknakgaa.dictTells
open Go.ChangeShapes Go.WideShapes Go.ChangeAt Go.RowKit
open Go.ChangeMaps (open_string shut_string)
open Go.Proofs.YtadenjdkknakgaaE (Arg Mem IsRow IRow law_calls row_irow Yes rowArg Leaf LeavesV IsRows SRow)
set_option linter.unusedVariables false
theorem own : ownKnob Try.prog.godebug = none := by kernel_rfl
theorem laidOut : laidOutB Try.prog = true := by kernel_rfl
/-- The engine runs it. -/
theorem walk (w : World) (a0 : Option Addr) (len0 cap0 : Nat) (z0 : List (List Go.Proofs.YtadenjdkknakgaaE.AV)) (w0 : IsRows [(.i .i64), (.i .i64), (.i .i64)] w a0 len0 cap0 z0) (y0 : len0 * 24 ≤ 140737488351232) (a1 : Option Addr) (len1 cap1 : Nat) (z1 : List (List Go.Proofs.YtadenjdkknakgaaE.AV)) (w1 : IsRows [(.i .i64), (.i .i64)] w a1 len1 cap1 z1) (y1 : len1 * 16 ≤ 140737488351232) :
    Calls Try.prog 4 #[.slice a0 len0 cap0, .slice a1 len1 cap1] w fun e w' => e = .returned (.bool true) ∧ Below w.heap.size w w' := by
  rcases w0 with ⟨rfl, rfl, rfl, rfl⟩ | ⟨x0, rfl, h01, h02, h03, h04, h05⟩
  · rcases w1 with ⟨rfl, rfl, rfl, rfl⟩ | ⟨x1, rfl, h11, h12, h13, h14, h15⟩
    · obtain ⟨fuel, h', n', tc, wr, e⟩ := Go.Proofs.YtadenjdkknakgaaT.tells_law [] _ (Nat.zero_le _) (fun _ h => nomatch h) [] _ (Nat.zero_le _) (fun _ h => nomatch h) _ 0 (.inl ⟨rfl, rfl⟩) (.inl ⟨rfl, rfl⟩) (.inl rfl) (.inl rfl)
      exact law_calls Go.Proofs.YtadenjdkknakgaaT.T_ok 4 [.nilrow, .nilrow] w (by
        intro a ha
        simp only [List.mem_cons, List.mem_nil_iff, or_false] at ha
        rcases ha with rfl | rfl
        · exact trivial
        · exact trivial) e
    · obtain ⟨fuel, h', n', tc, wr, e⟩ := Go.Proofs.YtadenjdkknakgaaT.tells_law [] _ (Nat.zero_le _) (fun _ h => nomatch h) (z1.take len1) _ (by rw [List.length_take]; omega) (fun z hz => h14 z (List.mem_of_mem_take hz)) _ 1 (.inl ⟨rfl, rfl⟩) (Go.Proofs.YtadenjdkknakgaaE.row_srow (ks := [(.i .i64), (.i .i64)]) (n := 0) (nx := 1) h11 h13 h14 Mem.empty (by decide)) (.inl rfl) (.inr ⟨_, _, _, rfl, h11⟩)
      exact law_calls Go.Proofs.YtadenjdkknakgaaT.T_ok 4 [.nilrow, .row x1 len1 cap1 2 z1.flatten] w (by
        intro a ha
        simp only [List.mem_cons, List.mem_nil_iff, or_false] at ha
        rcases ha with rfl | rfl
        · exact trivial
        · exact Go.Proofs.YtadenjdkknakgaaE.IsRows.ok (ks := [(.i .i64), (.i .i64)]) (by decide) h11 h13 h14 h15) e
  · rcases w1 with ⟨rfl, rfl, rfl, rfl⟩ | ⟨x1, rfl, h11, h12, h13, h14, h15⟩
    · obtain ⟨fuel, h', n', tc, wr, e⟩ := Go.Proofs.YtadenjdkknakgaaT.tells_law (z0.take len0) _ (by rw [List.length_take]; omega) (fun z hz => h04 z (List.mem_of_mem_take hz)) [] _ (Nat.zero_le _) (fun _ h => nomatch h) _ 1 (Go.Proofs.YtadenjdkknakgaaE.row_srow (ks := [(.i .i64), (.i .i64), (.i .i64)]) (n := 0) (nx := 1) h01 h03 h04 Mem.empty (by decide)) (.inl ⟨rfl, rfl⟩) (.inr ⟨_, _, _, rfl, h01⟩) (.inl rfl)
      exact law_calls Go.Proofs.YtadenjdkknakgaaT.T_ok 4 [.row x0 len0 cap0 3 z0.flatten, .nilrow] w (by
        intro a ha
        simp only [List.mem_cons, List.mem_nil_iff, or_false] at ha
        rcases ha with rfl | rfl
        · exact Go.Proofs.YtadenjdkknakgaaE.IsRows.ok (ks := [(.i .i64), (.i .i64), (.i .i64)]) (by decide) h01 h03 h04 h05
        · exact trivial) e
    · obtain ⟨fuel, h', n', tc, wr, e⟩ := Go.Proofs.YtadenjdkknakgaaT.tells_law (z0.take len0) _ (by rw [List.length_take]; omega) (fun z hz => h04 z (List.mem_of_mem_take hz)) (z1.take len1) _ (by rw [List.length_take]; omega) (fun z hz => h14 z (List.mem_of_mem_take hz)) _ 2 (Go.Proofs.YtadenjdkknakgaaE.row_srow_over (n := 1) (nx := 2) (Go.Proofs.YtadenjdkknakgaaE.row_srow (ks := [(.i .i64), (.i .i64), (.i .i64)]) (n := 0) (nx := 1) h01 h03 h04 Mem.empty (by decide)) _ (by decide) (by decide)) (Go.Proofs.YtadenjdkknakgaaE.row_srow (ks := [(.i .i64), (.i .i64)]) (n := 1) (nx := 2) h11 h13 h14 _ (by decide)) (.inr ⟨_, _, _, rfl, h01⟩) (.inr ⟨_, _, _, rfl, h11⟩)
      exact law_calls Go.Proofs.YtadenjdkknakgaaT.T_ok 4 [.row x0 len0 cap0 3 z0.flatten, .row x1 len1 cap1 2 z1.flatten] w (by
        intro a ha
        simp only [List.mem_cons, List.mem_nil_iff, or_false] at ha
        rcases ha with rfl | rfl
        · exact Go.Proofs.YtadenjdkknakgaaE.IsRows.ok (ks := [(.i .i64), (.i .i64), (.i .i64)]) (by decide) h01 h03 h04 h05
        · exact Go.Proofs.YtadenjdkknakgaaE.IsRows.ok (ks := [(.i .i64), (.i .i64)]) (by decide) h11 h13 h14 h15) e
set_option maxRecDepth 100000 in
theorem lifted (os : Os) (started : os.Started) (H : Type) (enc : TypeId × Value → H) :
    ReturnsInHanded {} Try.checked os 4 .any (Rows.dictTellsSpec.pre6 enc Try.prog Try.f4 Rows.dictTellsRow.domain false) (Rows.dictTellsSpec.post enc Try.prog Try.f4 false true false false) := by
  refine returnsInHanded_of_change_sized (C := Try.checked) own started (by kernel_rfl) Try.func4
    (ChangeSpec.witness6 (enc := enc) (C := Try.checked) false ⟨#[], #[.slice none 0 0, .slice none 0 0], []⟩ 8 (by kernel_rfl) (by kernel_rfl) (by kernel_rfl) (by kernel_rfl)) ?_
  intro W base args ds gs before hval0 hW hcnd hsz0 _
  have hsz : (DataW.weightsEach Try.prog (Try.f4.params.toList ++ Rows.dictTellsSpec.plain.varTypes Try.prog) (ds ++ gs)).all (· ≤ reachBytes) = true := hsz0
  have hval : ∀ (j : Nat) t v, Try.f4.params[j]? = some t → args[j]? = some v → Value.okWide Try.prog W .any base t v := hval0
  have hW' := hW
  obtain ⟨p, q, hA0, hV, rfl, hfz, hnd⟩ := hW
  have hA : DataW.TrodAll enc Try.prog W 0 (fun _ => true) true Try.f4.params.toList args.toList ds p := hA0
  rw [Try.params4] at hA hval hsz
  obtain ⟨v0, vs0, d0, ds0, p0, q0, hargs, rfl, rfl, h0, r0⟩ := trodAll_cons hA
  obtain ⟨v1, vs1, d1, ds1, p1, q1, rfl, rfl, rfl, h1, r1⟩ := trodAll_cons r0
  obtain ⟨rfl, rfl, rfl⟩ := trodAll_nil r1
  obtain rfl : args = #[v0, v1] := by cases args; simp_all
  obtain ⟨rfl, rfl⟩ := trodVars_none hV
  obtain ⟨a0, len0, cap0, rfl⟩ := okWide_slice Try.underlying22 (hval 0 22 v0 rfl rfl)
  have k0 := h0
  have lt0 : ∀ x ∈ p0, x.block < W.heap.size := by obtain ⟨m, hm⟩ := k0; exact DataW.trod_lt m _ _ _ hm
  obtain ⟨z0, w0⟩ := Go.Proofs.YtadenjdkknakgaaE.open_prows Try.underlying22 (d := 8) (ks := [(.i .i64), (.i .i64), (.i .i64)]) (by kernel_rfl) h0
  have y0 : len0 * 24 ≤ 140737488351232 := Go.Proofs.YtadenjdkknakgaaE.sized_any hsz (j := 0) (t := 22) rfl rfl Try.underlying22 (by kernel_rfl) h0
  obtain ⟨a1, len1, cap1, rfl⟩ := okWide_slice Try.underlying23 (hval 1 23 v1 rfl rfl)
  have k1 := h1
  have lt1 : ∀ x ∈ p1, x.block < W.heap.size := by obtain ⟨m, hm⟩ := k1; exact DataW.trod_lt m _ _ _ hm
  obtain ⟨z1, w1⟩ := Go.Proofs.YtadenjdkknakgaaE.open_prows Try.underlying23 (d := 8) (ks := [(.i .i64), (.i .i64)]) (by kernel_rfl) h1
  have y1 : len1 * 16 ≤ 140737488351232 := Go.Proofs.YtadenjdkknakgaaE.sized_any hsz (j := 1) (t := 23) rfl rfl Try.underlying23 (by kernel_rfl) h1
  clear hA0 hval0 hsz0 hsz
  refine (walk W a0 len0 cap0 z0 w0 y0 a1 len1 cap1 z1 w1 y1).mono fun e W' ⟨he, bel⟩ => ?_
  subst he
  exact ⟨_, rfl, _, _, _, [], _, [], hW', trodAll_mk1 (shut_bool Try.underlying4 _), (trodAll_cons_mk (Below.trod laidOut (by kernel_rfl) (of_decide_eq_true (by kernel_rfl)) k0 bel lt0) (trodAll_cons_mk (Below.trod laidOut (by kernel_rfl) (of_decide_eq_true (by kernel_rfl)) k1 bel lt1) trodAll_mk0)), rfl, bel.frame _, fun h => by cases h⟩
theorem over : Rows.dictTellsRow.holds Try.pinned (OpenSpec.ofChange Rows.dictTellsSpec) :=
  OpenClaim.holds_of_wide 4 Try.f4 rfl rfl rfl rfl rfl rfl rfl ⟨rfl, rfl, rfl, rfl, rfl⟩ rfl rfl rfl rfl rfl (by kernel_rfl) Try.func4 (by kernel_rfl)
    (of_decide_eq_true (by kernel_rfl)) (by unfold Func.isWrapper; first | (rw [if_pos (by decide +kernel)]; kernel_rfl) | (rw [if_neg (by decide +kernel)]; exact ⟨rfl, rfl⟩))
    (fun os started H enc _ => lifted os started H enc)
theorem proved : Rows.DictTellsSaid := over
#print axioms proved
end Go.Proofs.Ytadenjdkknakgaa.dictTells
namespace Go.Proofs.Ytadenjdkknakgaa
/-- The row, under a short name, for the claim. -/
theorem dictTells_holds : Rows.DictTellsSaid := dictTells.proved
end Go.Proofs.Ytadenjdkknakgaa

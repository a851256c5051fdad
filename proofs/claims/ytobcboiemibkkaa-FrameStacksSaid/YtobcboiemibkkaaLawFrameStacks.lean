/- The row of the law FrameStacks: its walk is the engine's run (printed by mkRow.py after the kit's own print of rows). -/
import Derived.Test.YtobcboiemibkkaaRows
import Derived.Test.YtobcboiemibkkaaStLaw
import Derived.WalkKit
import Derived.ProofKit
import Derived.OpenShut
import Derived.ShutString
import Derived.ChangeOld
import Derived.Below
import Derived.SizedLaws
import Derived.Test.YtobcboiemibkkaaE26
namespace Go.Proofs.Ytobcboiemibkkaa.frameStacks
open Go.ChangeShapes Go.WideShapes Go.ChangeAt Go.RowKit
open Go.ChangeMaps (open_string shut_string)
open Go.Proofs.YtobcboiemibkkaaE (Arg Mem IsRow IRow law_calls row_irow Yes rowArg Leaf LeavesV IsRows SRow)
set_option linter.unusedVariables false
theorem own : ownKnob Try.prog.godebug = none := by kernel_rfl
theorem laidOut : laidOutB Try.prog = true := by kernel_rfl
/-- The engine runs it. -/
theorem walk (w : World) (a0 : Option Addr) (len0 cap0 : Nat) (z0 : List Int) (w0 : IsRow .u32 w a0 len0 cap0 z0) (y0 : len0 * 4 ≤ 140737488351232) (a1 : Option Addr) (len1 cap1 : Nat) (z1 : List (List Go.Proofs.YtobcboiemibkkaaE.AV)) (w1 : IsRows [.b] w a1 len1 cap1 z1) (y1 : len1 * 1 ≤ 140737488351232) :
    Calls Try.prog 6 #[.slice a0 len0 cap0, .slice a1 len1 cap1] w fun e w' => e = .returned (.bool true) ∧ Below w.heap.size w w' := by
  rcases w0 with ⟨rfl, rfl, rfl, rfl⟩ | ⟨x0, rfl, h01, h02, h03, h04, h05⟩
  · rcases w1 with ⟨rfl, rfl, rfl, rfl⟩ | ⟨x1, rfl, h11, h12, h13, h14, h15⟩
    · obtain ⟨fuel, h', n', tc, wr, e⟩ := Go.Proofs.YtobcboiemibkkaaT.stacks_law [] _ (Nat.zero_le _) (fun _ h => nomatch h) [] _ (Nat.zero_le _) (fun _ h => nomatch h) _ 0 (.inl ⟨rfl, rfl⟩) (.inl ⟨rfl, rfl⟩)
      exact law_calls Go.Proofs.YtobcboiemibkkaaT.T_ok 6 [.nilrow, .nilrow] w (by
        intro a ha
        simp only [List.mem_cons, List.mem_nil_iff, or_false] at ha
        rcases ha with rfl | rfl
        · exact trivial
        · exact trivial) e
    · obtain ⟨fuel, h', n', tc, wr, e⟩ := Go.Proofs.YtobcboiemibkkaaT.stacks_law [] _ (Nat.zero_le _) (fun _ h => nomatch h) (z1.take len1) _ (by rw [List.length_take]; omega) (fun z hz => h14 z (List.mem_of_mem_take hz)) _ 1 (.inl ⟨rfl, rfl⟩) (Go.Proofs.YtobcboiemibkkaaE.row_srow (ks := [.b]) (n := 0) (nx := 1) h11 h13 h14 Mem.empty (by decide))
      exact law_calls Go.Proofs.YtobcboiemibkkaaT.T_ok 6 [.nilrow, .row x1 len1 cap1 1 z1.flatten] w (by
        intro a ha
        simp only [List.mem_cons, List.mem_nil_iff, or_false] at ha
        rcases ha with rfl | rfl
        · exact trivial
        · exact Go.Proofs.YtobcboiemibkkaaE.IsRows.ok (ks := [.b]) (by decide) h11 h13 h14 h15) e
  · rcases w1 with ⟨rfl, rfl, rfl, rfl⟩ | ⟨x1, rfl, h11, h12, h13, h14, h15⟩
    · obtain ⟨fuel, h', n', tc, wr, e⟩ := Go.Proofs.YtobcboiemibkkaaT.stacks_law (z0.take len0) _ (by rw [List.length_take]; omega) (fun n hn => h05 n (List.mem_of_mem_take hn)) [] _ (Nat.zero_le _) (fun _ h => nomatch h) _ 1 (row_irow (n := 0) (nx := 1) h01 h03 Mem.empty (by decide)) (.inl ⟨rfl, rfl⟩)
      exact law_calls Go.Proofs.YtobcboiemibkkaaT.T_ok 6 [.row x0 len0 cap0 1 (z0.map (.int .u32 ·)), .nilrow] w (by
        intro a ha
        simp only [List.mem_cons, List.mem_nil_iff, or_false] at ha
        rcases ha with rfl | rfl
        · exact Go.Proofs.YtobcboiemibkkaaE.IsRow.ok (.inr ⟨x0, rfl, h01, h02, h03, h04, h05⟩)
        · exact trivial) e
    · obtain ⟨fuel, h', n', tc, wr, e⟩ := Go.Proofs.YtobcboiemibkkaaT.stacks_law (z0.take len0) _ (by rw [List.length_take]; omega) (fun n hn => h05 n (List.mem_of_mem_take hn)) (z1.take len1) _ (by rw [List.length_take]; omega) (fun z hz => h14 z (List.mem_of_mem_take hz)) _ 2 (Go.Proofs.YtobcboiemibkkaaE.row_irow_over (n := 1) (nx := 2) (row_irow (n := 0) (nx := 1) h01 h03 Mem.empty (by decide)) _ (by decide) (by decide)) (Go.Proofs.YtobcboiemibkkaaE.row_srow (ks := [.b]) (n := 1) (nx := 2) h11 h13 h14 (Go.Proofs.YtobcboiemibkkaaE.rowMem cap0 Mem.empty 0 (z0.map (.int .u32 ·))) (by decide))
      exact law_calls Go.Proofs.YtobcboiemibkkaaT.T_ok 6 [.row x0 len0 cap0 1 (z0.map (.int .u32 ·)), .row x1 len1 cap1 1 z1.flatten] w (by
        intro a ha
        simp only [List.mem_cons, List.mem_nil_iff, or_false] at ha
        rcases ha with rfl | rfl
        · exact Go.Proofs.YtobcboiemibkkaaE.IsRow.ok (.inr ⟨x0, rfl, h01, h02, h03, h04, h05⟩)
        · exact Go.Proofs.YtobcboiemibkkaaE.IsRows.ok (ks := [.b]) (by decide) h11 h13 h14 h15) e
set_option maxRecDepth 100000 in
theorem lifted (os : Os) (started : os.Started) (H : Type) (enc : TypeId × Value → H) :
    ReturnsInHanded {} Try.checked os 6 .any (Rows.frameStacksSpec.pre6 enc Try.prog Try.f6 Rows.frameStacksRow.domain false) (Rows.frameStacksSpec.post enc Try.prog Try.f6 false true false false) := by
  refine returnsInHanded_of_change_sized (C := Try.checked) own started (by kernel_rfl) Try.func6
    (ChangeSpec.witness6 (enc := enc) (C := Try.checked) false ⟨#[], #[.slice none 0 0, .slice none 0 0], []⟩ 8 (by kernel_rfl) (by kernel_rfl) (by kernel_rfl) (by kernel_rfl)) ?_
  intro W base args ds gs before hval0 hW hcnd hsz0 _
  have hsz : (DataW.weightsEach Try.prog (Try.f6.params.toList ++ Rows.frameStacksSpec.plain.varTypes Try.prog) (ds ++ gs)).all (· ≤ reachBytes) = true := hsz0
  have hval : ∀ (j : Nat) t v, Try.f6.params[j]? = some t → args[j]? = some v → Value.okWide Try.prog W .any base t v := hval0
  have hW' := hW
  obtain ⟨p, q, hA0, hV, rfl, hfz, hnd⟩ := hW
  have hA : DataW.TrodAll enc Try.prog W 0 (fun _ => true) true Try.f6.params.toList args.toList ds p := hA0
  rw [Try.params6] at hA hval hsz
  obtain ⟨v0, vs0, d0, ds0, p0, q0, hargs, rfl, rfl, h0, r0⟩ := trodAll_cons hA
  obtain ⟨v1, vs1, d1, ds1, p1, q1, rfl, rfl, rfl, h1, r1⟩ := trodAll_cons r0
  obtain ⟨rfl, rfl, rfl⟩ := trodAll_nil r1
  obtain rfl : args = #[v0, v1] := by cases args; simp_all
  obtain ⟨rfl, rfl⟩ := trodVars_none hV
  obtain ⟨a0, len0, cap0, rfl⟩ := okWide_slice Try.underlying24 (hval 0 24 v0 rfl rfl)
  have k0 := h0
  have lt0 : ∀ x ∈ p0, x.block < W.heap.size := by obtain ⟨m, hm⟩ := k0; exact DataW.trod_lt m _ _ _ hm
  obtain ⟨z0, w0⟩ : ∃ zs, IsRow .u32 W a0 len0 cap0 zs := by
    obtain ⟨fuel, hf⟩ := h0
    rcases open_ints Try.underlying24 Try.underlying23 (by kernel_rfl) hf with ⟨hcs, _⟩ | ⟨x, l, c, zs, hcs, _, hl, hm, hz, _, hcell, hwz⟩
    · simp [Value.cells] at hcs
      obtain ⟨rfl, rfl, rfl⟩ := hcs
      exact ⟨[], .inl ⟨rfl, rfl, rfl, rfl⟩⟩
    · simp [Value.cells] at hcs
      obtain ⟨rfl, rfl, rfl⟩ := hcs
      exact ⟨zs, .inr ⟨_, rfl, hl, hm, by simpa using hz, hcell, hwz⟩⟩
  have y0 : len0 * 4 ≤ 140737488351232 := Go.Proofs.YtobcboiemibkkaaE.sized_any hsz (j := 0) (t := 24) rfl rfl Try.underlying24 (by kernel_rfl) h0
  obtain ⟨a1, len1, cap1, rfl⟩ := okWide_slice Try.underlying40 (hval 1 40 v1 rfl rfl)
  have k1 := h1
  have lt1 : ∀ x ∈ p1, x.block < W.heap.size := by obtain ⟨m, hm⟩ := k1; exact DataW.trod_lt m _ _ _ hm
  obtain ⟨z1, w1⟩ := Go.Proofs.YtobcboiemibkkaaE.open_prows Try.underlying40 (d := 8) (ks := [.b]) (by kernel_rfl) h1
  have y1 : len1 * 1 ≤ 140737488351232 := Go.Proofs.YtobcboiemibkkaaE.sized_any hsz (j := 1) (t := 40) rfl rfl Try.underlying40 (by kernel_rfl) h1
  clear hA0 hval0 hsz0 hsz
  refine (walk W a0 len0 cap0 z0 w0 y0 a1 len1 cap1 z1 w1 y1).mono fun e W' ⟨he, bel⟩ => ?_
  subst he
  exact ⟨_, rfl, _, _, _, [], _, [], hW', trodAll_mk1 (shut_bool Try.underlying4 _), (trodAll_cons_mk (Below.trod laidOut (by kernel_rfl) (of_decide_eq_true (by kernel_rfl)) k0 bel lt0) (trodAll_cons_mk (Below.trod laidOut (by kernel_rfl) (of_decide_eq_true (by kernel_rfl)) k1 bel lt1) trodAll_mk0)), rfl, bel.frame _, fun h => by cases h⟩
theorem over : Rows.frameStacksRow.holds Try.pinned (OpenSpec.ofChange Rows.frameStacksSpec) :=
  OpenClaim.holds_of_wide 6 Try.f6 rfl rfl rfl rfl rfl rfl rfl ⟨rfl, rfl, rfl, rfl, rfl⟩ rfl rfl rfl rfl rfl (by kernel_rfl) Try.func6 (by kernel_rfl)
    (of_decide_eq_true (by kernel_rfl)) (by unfold Func.isWrapper; first | (rw [if_pos (by decide +kernel)]; kernel_rfl) | (rw [if_neg (by decide +kernel)]; exact ⟨rfl, rfl⟩))
    (fun os started H enc _ => lifted os started H enc)
theorem proved : Rows.FrameStacksSaid := over
#print axioms proved
end Go.Proofs.Ytobcboiemibkkaa.frameStacks
namespace Go.Proofs.Ytobcboiemibkkaa
/-- The row, under a short name, for the claim. -/
theorem frameStacks_holds : Rows.FrameStacksSaid := frameStacks.proved
end Go.Proofs.Ytobcboiemibkkaa

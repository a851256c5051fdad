/- The row of the law CostParts: its walk is the engine's run (printed by mkRow.py after the kit's own print of rows). -/
import Derived.Test.YtkofebojphfefaaRows
import Derived.Test.YtkofebojphfefaaParts
import Derived.WalkKit
import Derived.ProofKit
import Derived.OpenShut
import Derived.ShutString
import Derived.ChangeOld
import Derived.Below
import Derived.SizedLaws
import Derived.Test.YtkofebojphfefaaE26
namespace Go.Proofs.Ytkofebojphfefaa.costParts
open Go.ChangeShapes Go.WideShapes Go.ChangeAt Go.RowKit
open Go.ChangeMaps (open_string shut_string)
open Go.Proofs.YtkofebojphfefaaE (Arg Mem IsRow IRow law_calls row_irow Yes rowArg Leaf LeavesV IsRows SRow)
set_option linter.unusedVariables false
theorem own : ownKnob Try.prog.godebug = none := by kernel_rfl
theorem laidOut : laidOutB Try.prog = true := by kernel_rfl
/-- The engine runs it. -/
theorem walk (w : World) (a0 : Option Addr) (len0 cap0 : Nat) (z0 : List Int) (w0 : IsRow .i64 w a0 len0 cap0 z0) (y0 : len0 * 8 ≤ 140737488351232) :
    Calls Try.prog 6 #[.slice a0 len0 cap0] w fun e w' => e = .returned (.bool true) ∧ Below w.heap.size w w' := by
  rcases w0 with ⟨rfl, rfl, rfl, rfl⟩ | ⟨x0, rfl, h01, h02, h03, h04, h05⟩
  · obtain ⟨fuel, h', n', tc, wr, e⟩ := Go.Proofs.YtkofebojphfefaaT.parts_law [] _ (Nat.zero_le _) (fun _ h => nomatch h) _ 0 (.inl ⟨rfl, rfl⟩)
    exact law_calls Go.Proofs.YtkofebojphfefaaT.T_ok 6 [.nilrow] w (by
      intro a ha
      simp only [List.mem_cons, List.mem_nil_iff, or_false] at ha
      subst ha
      · exact trivial) e
  · obtain ⟨fuel, h', n', tc, wr, e⟩ := Go.Proofs.YtkofebojphfefaaT.parts_law (z0.take len0) _ (by rw [List.length_take]; omega) (fun n hn => h05 n (List.mem_of_mem_take hn)) _ 1 (row_irow (n := 0) (nx := 1) h01 h03 Mem.empty (by decide))
    exact law_calls Go.Proofs.YtkofebojphfefaaT.T_ok 6 [.row x0 len0 cap0 1 (z0.map (.int .i64 ·))] w (by
      intro a ha
      simp only [List.mem_cons, List.mem_nil_iff, or_false] at ha
      subst ha
      · exact Go.Proofs.YtkofebojphfefaaE.IsRow.ok (.inr ⟨x0, rfl, h01, h02, h03, h04, h05⟩)) e
set_option maxRecDepth 100000 in
theorem lifted (os : Os) (started : os.Started) (H : Type) (enc : TypeId × Value → H) :
    ReturnsInHanded {} Try.checked os 6 .any (Rows.costPartsSpec.pre6 enc Try.prog Try.f6 Rows.costPartsRow.domain false) (Rows.costPartsSpec.post enc Try.prog Try.f6 false true false false) := by
  refine returnsInHanded_of_change_sized (C := Try.checked) own started (by kernel_rfl) Try.func6
    (ChangeSpec.witness6 (enc := enc) (C := Try.checked) false ⟨#[], #[.slice none 0 0], []⟩ 8 (by kernel_rfl) (by kernel_rfl) (by kernel_rfl) (by kernel_rfl)) ?_
  intro W base args ds gs before hval0 hW hcnd hsz0 _
  have hsz : (DataW.weightsEach Try.prog (Try.f6.params.toList ++ Rows.costPartsSpec.plain.varTypes Try.prog) (ds ++ gs)).all (· ≤ reachBytes) = true := hsz0
  have hval : ∀ (j : Nat) t v, Try.f6.params[j]? = some t → args[j]? = some v → Value.okWide Try.prog W .any base t v := hval0
  have hW' := hW
  obtain ⟨p, q, hA0, hV, rfl, hfz, hnd⟩ := hW
  have hA : DataW.TrodAll enc Try.prog W 0 (fun _ => true) true Try.f6.params.toList args.toList ds p := hA0
  rw [Try.params6] at hA hval hsz
  obtain ⟨v0, vs0, d0, ds0, p0, q0, hargs, rfl, rfl, h0, r0⟩ := trodAll_cons hA
  obtain ⟨rfl, rfl, rfl⟩ := trodAll_nil r0
  obtain rfl : args = #[v0] := by cases args; simp_all
  obtain ⟨rfl, rfl⟩ := trodVars_none hV
  obtain ⟨a0, len0, cap0, rfl⟩ := okWide_slice Try.underlying27 (hval 0 27 v0 rfl rfl)
  have k0 := h0
  have lt0 : ∀ x ∈ p0, x.block < W.heap.size := by obtain ⟨m, hm⟩ := k0; exact DataW.trod_lt m _ _ _ hm
  obtain ⟨z0, w0⟩ : ∃ zs, IsRow .i64 W a0 len0 cap0 zs := by
    obtain ⟨fuel, hf⟩ := h0
    rcases open_ints Try.underlying27 Try.underlying3 (by kernel_rfl) hf with ⟨hcs, _⟩ | ⟨x, l, c, zs, hcs, _, hl, hm, hz, _, hcell, hwz⟩
    · simp [Value.cells] at hcs
      obtain ⟨rfl, rfl, rfl⟩ := hcs
      exact ⟨[], .inl ⟨rfl, rfl, rfl, rfl⟩⟩
    · simp [Value.cells] at hcs
      obtain ⟨rfl, rfl, rfl⟩ := hcs
      exact ⟨zs, .inr ⟨_, rfl, hl, hm, by simpa using hz, hcell, hwz⟩⟩
  have y0 : len0 * 8 ≤ 140737488351232 := Go.Proofs.YtkofebojphfefaaE.sized_any hsz (j := 0) (t := 27) rfl rfl Try.underlying27 (by kernel_rfl) h0
  clear hA0 hval0 hsz0 hsz
  refine (walk W a0 len0 cap0 z0 w0 y0).mono fun e W' ⟨he, bel⟩ => ?_
  subst he
  exact ⟨_, rfl, _, _, _, [], _, [], hW', trodAll_mk1 (shut_bool Try.underlying4 _), (trodAll_cons_mk (Below.trod laidOut (by kernel_rfl) (of_decide_eq_true (by kernel_rfl)) k0 bel lt0) trodAll_mk0), rfl, bel.frame _, fun h => by cases h⟩
theorem over : Rows.costPartsRow.holds Try.pinned (OpenSpec.ofChange Rows.costPartsSpec) :=
  OpenClaim.holds_of_wide 6 Try.f6 rfl rfl rfl rfl rfl rfl rfl ⟨rfl, rfl, rfl, rfl, rfl⟩ rfl rfl rfl rfl rfl (by kernel_rfl) Try.func6 (by kernel_rfl)
    (of_decide_eq_true (by kernel_rfl)) (by unfold Func.isWrapper; first | (rw [if_pos (by decide +kernel)]; kernel_rfl) | (rw [if_neg (by decide +kernel)]; exact ⟨rfl, rfl⟩))
    (fun os started H enc _ => lifted os started H enc)
theorem proved : Rows.CostPartsSaid := over
#print axioms proved
end Go.Proofs.Ytkofebojphfefaa.costParts
namespace Go.Proofs.Ytkofebojphfefaa
/-- The row, under a short name, for the claim. -/
theorem costParts_holds : Rows.CostPartsSaid := costParts.proved
end Go.Proofs.Ytkofebojphfefaa

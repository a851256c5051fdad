/- The row of the law TopInputs: its walk is the engine's run (printed by mkRow.py after the kit's own print of rows). -/
import Derived.Test.YtnoclbkoklknnaaGreatDoorRows
import Derived.Test.YtnoclbkoklknnaaGreatDoorCards
import Derived.Test.YtnoclbkoklknnaaGreatDoorTie
import Derived.Test.YtnoclbkoklknnaaGreatDoorInputs
import Derived.WalkKit
import Derived.ProofKit
import Derived.OpenShut
import Derived.ShutString
import Derived.ChangeOld
import Derived.Below
import Derived.SizedLaws
import Derived.LaidMore
import Derived.Lay
import Derived.SevenTiedAt
import Derived.Stop.Joined
import Derived.Test.YtnoclbkoklknnaaGreatDoorE26
namespace Go.Proofs.YtnoclbkoklknnaaGreatDoor.topInputs
open Go.ChangeShapes Go.WideShapes Go.ChangeAt Go.RowKit
open Go.ChangeMaps (open_string shut_string)
open Go.Proofs.YtnoclbkoklknnaaGreatDoorE (Arg Mem IsRow IRow law_calls row_irow Yes rowArg Leaf LeavesV IsRows SRow)
set_option linter.unusedVariables false
theorem own : ownKnob Tryz.prog.godebug = none := by kernel_rfl
noncomputable abbrev laidL : List (String × DataW Unit) := [("unicode/utf8.acceptRanges", Rows.laid_unicode_utf8_acceptRanges), ("unicode/utf8.first", Rows.laid_unicode_utf8_first)]
theorem laidOut : laidOutB Tryz.prog = true := by kernel_rfl
/-- The engine runs it. -/
theorem walk (w : World) (a0 : Option Addr) (len0 cap0 : Nat) (z0 : List Int) (w0 : IsRow .i64 w a0 len0 cap0 z0) (y0 : len0 * 8 ≤ 140737488351232) :
    Calls Tryz.prog 4 #[.slice a0 len0 cap0] w fun e w' => e = .returned (.bool true) ∧ Below w.heap.size w w' := by
  rcases w0 with ⟨rfl, rfl, rfl, rfl⟩ | ⟨x0, rfl, h01, h02, h03, h04, h05⟩
  · obtain ⟨fuel, h', n', tc, wr, e⟩ := Go.Proofs.YtnoclbkoklknnaaGreatDoorT.inputs_law [] _ (Nat.zero_le _) (fun _ h => nomatch h) _ 0 (.inl ⟨rfl, rfl⟩) (by decide) (fun b o n c h => by cases h <;> rfl)
    exact law_calls (Go.Proofs.YtnoclbkoklknnaaGreatDoorX.table_self _) 4 [.nilrow] w (by
      intro a ha
      simp only [List.mem_cons, List.mem_nil_iff, or_false] at ha
      subst ha
      · exact trivial) e
  · obtain ⟨fuel, h', n', tc, wr, e⟩ := Go.Proofs.YtnoclbkoklknnaaGreatDoorT.inputs_law (z0.take len0) _ (by rw [List.length_take]; omega) (fun n hn => h05 n (List.mem_of_mem_take hn)) _ 1 (row_irow (n := 0) (nx := 1) h01 h03 Mem.empty (by decide)) (by decide) (fun b o n c h => by cases h <;> rfl)
    exact law_calls (Go.Proofs.YtnoclbkoklknnaaGreatDoorX.table_self _) 4 [.row x0 len0 cap0 1 (z0.map (.int .i64 ·))] w (by
      intro a ha
      simp only [List.mem_cons, List.mem_nil_iff, or_false] at ha
      subst ha
      · exact Go.Proofs.YtnoclbkoklknnaaGreatDoorE.IsRow.ok (.inr ⟨x0, rfl, h01, h02, h03, h04, h05⟩)) e
set_option maxRecDepth 100000 in
theorem lifted (os : Os) (started : os.Started) (H : Type) (enc : TypeId × Value → H) :
    ReturnsInHanded {} Tryz.checked os 4 .any (fun w args => (Rows.topInputsSpec.pre enc Tryz.prog Tryz.f4 Rows.topInputsRow.domain false w args ∧ laidMetH Tryz.prog laidL w) ∧ sizedMet enc Tryz.prog Tryz.f4 (OpenSpec.ofChange Rows.topInputsSpec) false w args)
      (Rows.topInputsSpec.post enc Tryz.prog Tryz.f4 false true false false) := by
  refine returnsInHanded_of_change_and (C := Tryz.checked) (X := fun w _ => laidMetH Tryz.prog laidL w) (fun _ _ _ hh h => h.of_heap hh) own started (by kernel_rfl) Tryz.func4
    (ChangeSpec.witness_shaped (enc := enc) (C := Tryz.checked) (os := os) (X := fun w _ => laidMetH Tryz.prog laidL w) false (World.laidAll Tryz.prog os laidL) #[.slice none 0 0] 8 (World.laidAll_os _ _ _)
      (World.shaped_of_ZipB (by kernel_rfl) (by kernel_rfl)) (by kernel_rfl) (by kernel_rfl) (by kernel_rfl)
      (by rw [MakeChecks.laidMetH_plain _ _ _ (by kernel_rfl)]; exact laidMet_laidAll _ (by kernel_rfl) (by kernel_rfl))) ?_
  intro W base args ds gs before hval0 hW hcnd hsz0 hL _
  have hsz : (DataW.weightsEach Tryz.prog (Tryz.f4.params.toList ++ Rows.topInputsSpec.plain.varTypes Tryz.prog) (ds ++ gs)).all (· ≤ reachBytes) = true := hsz0
  have hval : ∀ (j : Nat) t v, Tryz.f4.params[j]? = some t → args[j]? = some v → Value.okWide Tryz.prog W .any base t v := hval0
  have hW' := hW
  obtain ⟨p, q, hA0, hV, rfl, hfz, hnd⟩ := hW
  have hA : DataW.TrodAll enc Tryz.prog W 0 (fun _ => true) true Tryz.f4.params.toList args.toList ds p := hA0
  rw [Tryz.params4] at hA hval hsz
  obtain ⟨v0, vs0, d0, ds0, p0, q0, hargs, rfl, rfl, h0, r0⟩ := trodAll_cons hA
  obtain ⟨rfl, rfl, rfl⟩ := trodAll_nil r0
  obtain rfl : args = #[v0] := by cases args; simp_all
  obtain ⟨rfl, rfl⟩ := trodVars_none hV
  obtain ⟨a0, len0, cap0, rfl⟩ := okWide_slice Tryz.underlying46 (hval 0 46 v0 rfl rfl)
  have k0 := h0
  have lt0 : ∀ x ∈ p0, x.block < W.heap.size := by obtain ⟨m, hm⟩ := k0; exact DataW.trod_lt m _ _ _ hm
  obtain ⟨z0, w0⟩ : ∃ zs, IsRow .i64 W a0 len0 cap0 zs := by
    obtain ⟨fuel, hf⟩ := h0
    rcases open_ints Tryz.underlying46 Tryz.underlying3 (by kernel_rfl) hf with ⟨hcs, _⟩ | ⟨x, l, c, zs, hcs, _, hl, hm, hz, _, hcell, hwz⟩
    · simp [Value.cells] at hcs
      obtain ⟨rfl, rfl, rfl⟩ := hcs
      exact ⟨[], .inl ⟨rfl, rfl, rfl, rfl⟩⟩
    · simp [Value.cells] at hcs
      obtain ⟨rfl, rfl, rfl⟩ := hcs
      exact ⟨zs, .inr ⟨_, rfl, hl, hm, by simpa using hz, hcell, hwz⟩⟩
  have y0 : len0 * 8 ≤ 140737488351232 := Go.Proofs.YtnoclbkoklknnaaGreatDoorE.sized_any hsz (j := 0) (t := 46) rfl rfl Tryz.underlying46 (by kernel_rfl) h0
  clear hA0 hval0 hsz0 hsz
  refine (walk W a0 len0 cap0 z0 w0 y0).mono fun e W' ⟨he, bel⟩ => ?_
  subst he
  exact ⟨_, rfl, _, _, _, [], _, [], hW', trodAll_mk1 (shut_bool Tryz.underlying4 _), (trodAll_cons_mk (Below.trod laidOut (by kernel_rfl) (of_decide_eq_true (by kernel_rfl)) k0 bel lt0) trodAll_mk0), rfl, bel.frame _, fun h => by cases h⟩
theorem over : Rows.topInputsRow.holds Tryz.pinned (OpenSpec.ofChange Rows.topInputsSpec) :=
  OpenClaim.holds_of_wide 4 Tryz.f4 rfl rfl rfl rfl rfl rfl rfl ⟨rfl, rfl, rfl, rfl, rfl⟩ rfl rfl rfl rfl rfl (by kernel_rfl) Tryz.func4 (by kernel_rfl)
    (of_decide_eq_true (by kernel_rfl)) (by unfold Func.isWrapper; first | (rw [if_pos (by decide +kernel)]; kernel_rfl) | (rw [if_neg (by decide +kernel)]; exact ⟨rfl, rfl⟩))
    (fun os started H enc _ => lifted os started H enc)
theorem proved : Rows.TopInputsSaid := over
end Go.Proofs.YtnoclbkoklknnaaGreatDoor.topInputs
namespace Go.Proofs.YtnoclbkoklknnaaGreatDoor
/-- The card. -/
theorem topInputs_holds : Rows.TopInputsCardSaid :=
  Claim7.holds_tied_plain_at .later [] [.data, .pinned] true (true, "c69ab9ffd6904045e6b752c39dc1a4790674205a0660d6049a095d22b960f105") false
    topInputs.proved (fun _ h => by cases h) (by kernel_rfl) (fun _ h => by cases h) topInputs_row_tie rfl ⟨rfl, rfl⟩ (by kernel_rfl) rfl
    (fun f fn hf hfn => by
      obtain rfl : f = 4 := Option.some.inj ((show Tryz.prog.funcNamed "treadwheel/treadwheeltop.TopInputs" = some 4 by kernel_rfl).symm.trans hf) |>.symm
      obtain rfl : fn = Tryz.f4 := (Option.some.inj (Tryz.func4.symm.trans hfn)).symm
      exact ⟨by kernel_rfl, fun j t ht => by
        rw [Tryz.params4] at ht
        have hm : t ∈ ([46] : List TypeId) := by simpa using Array.mem_of_getElem? ht
        have hall : (([46] : List TypeId).all fun u => !Tryz.prog.wantsStandIn u) = true := by kernel_rfl
        exact (show Tryz.prog.wantsStandIn t = false by simpa using List.all_eq_true.1 hall t hm)⟩)
    (by kernel_rfl)
#print axioms topInputs_holds
end Go.Proofs.YtnoclbkoklknnaaGreatDoor

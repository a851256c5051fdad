/- The row of the law FramePlays: its walk is the engine's run (printed by mkLay.py after the kit's own print of rows). -/
import Derived.Test.YtobcboiemibkkaaRows
import Derived.Test.YtobcboiemibkkaaPlays
import Derived.WalkKit
import Derived.ProofKit
import Derived.OpenShut
import Derived.ShutString
import Derived.ChangeOld
import Derived.Below
import Derived.SizedLaws
import Derived.Test.YtobcboiemibkkaaE31
namespace Go.Proofs.Ytobcboiemibkkaa.framePlays
open Go.ChangeShapes Go.WideShapes Go.ChangeAt Go.RowKit
open Go.ChangeMaps (open_string shut_string)
set_option linter.unusedVariables false
theorem own : ownKnob Try.prog.godebug = none := by kernel_rfl
theorem laidOut : laidOutB Try.prog = true := by kernel_rfl
set_option maxRecDepth 100000 in
theorem lifted (os : Os) (started : os.Started) (H : Type) (enc : TypeId × Value → H) :
    ReturnsInHanded {} Try.checked os 4 .any (Rows.framePlaysSpec.pre6 enc Try.prog Try.f4 Rows.framePlaysRow.domain false) (Rows.framePlaysSpec.post enc Try.prog Try.f4 false true false false) := by
  refine returnsInHanded_of_change_sized (C := Try.checked) own started (by kernel_rfl) Try.func4
    (ChangeSpec.witness6 (enc := enc) (C := Try.checked) false ⟨#[], #[.slice none 0 0], []⟩ 8 (by kernel_rfl) (by kernel_rfl) (by kernel_rfl) (by kernel_rfl)) ?_
  intro W base args ds gs before hval0 hW hcnd hsz0 _
  have hval : ∀ (j : Nat) t v, Try.f4.params[j]? = some t → args[j]? = some v → Value.okWide Try.prog W .any base t v := hval0
  have hW' := hW
  obtain ⟨p, q, hA0, hV, rfl, hfz, hnd⟩ := hW
  have hA : DataW.TrodAll enc Try.prog W 0 (fun _ => true) true Try.f4.params.toList args.toList ds p := hA0
  have hsz : (DataW.weightsEach Try.prog (Try.f4.params.toList ++ Rows.framePlaysSpec.plain.varTypes Try.prog) (ds ++ gs)).all (· ≤ reachBytes) = true := hsz0
  rw [Try.params4] at hA hval hsz
  obtain ⟨v0, vs0, d0, ds0, p0, q0, hargs, rfl, rfl, h0, r0⟩ := trodAll_cons hA
  obtain ⟨rfl, rfl, rfl⟩ := trodAll_nil r0
  obtain rfl : args = #[v0] := by cases args; simp_all
  obtain ⟨rfl, rfl⟩ := trodVars_none hV
  have L0 := Go.Proofs.YtobcboiemibkkaaE.lay_trod (B := W.heap.size) (d := 8) (ks := [(.sl [(.l (.i .i64)), (.l (.i .i64)), (.l (.i .i64)), (.l (.i .u32)), (.sl [(.l (.i .u32))])])]) (by kernel_rfl) h0
  obtain ⟨a0, len0, cap0, rfl⟩ := okWide_slice Try.underlying22 (hval 0 22 v0 rfl rfl)
  have k0 := h0
  have lt0 : ∀ x ∈ p0, x.block < W.heap.size := by obtain ⟨m, hm⟩ := k0; exact DataW.trod_lt m _ _ _ hm
  have y0 : len0 * 56 ≤ 140737488351232 := Go.Proofs.YtobcboiemibkkaaE.sized_any hsz (j := 0) (t := 22) rfl rfl Try.underlying22 (by kernel_rfl) h0
  have L : Go.Proofs.YtobcboiemibkkaaE.Lay W.heap.size W [(.sl [(.l (.i .i64)), (.l (.i .i64)), (.l (.i .i64)), (.l (.i .u32)), (.sl [(.l (.i .u32))])])] [.slice a0 len0 cap0] := L0
  clear hA0 hval0 hsz0 hsz
  refine (Go.Proofs.YtobcboiemibkkaaE.lay_calls_n Go.Proofs.YtobcboiemibkkaaT.T_ok 4 W L fun h p avs g ln => Go.Proofs.YtobcboiemibkkaaT.plays_law h p avs g (fun x hx => by obtain ⟨x2, hx2, e⟩ := ln 0 _ _ _ rfl; rw [hx] at hx2; cases hx2; rw [e]; exact y0)).mono fun e W' ⟨he, bel⟩ => ?_
  subst he
  exact ⟨_, rfl, _, _, _, [], _, [], hW', trodAll_mk1 (shut_bool Try.underlying4 _), (trodAll_cons_mk (Below.trod laidOut (by kernel_rfl) (of_decide_eq_true (by kernel_rfl)) k0 bel lt0) trodAll_mk0), rfl, bel.frame _, fun h => by cases h⟩
theorem over : Rows.framePlaysRow.holds Try.pinned (OpenSpec.ofChange Rows.framePlaysSpec) :=
  OpenClaim.holds_of_wide 4 Try.f4 rfl rfl rfl rfl rfl rfl rfl ⟨rfl, rfl, rfl, rfl, rfl⟩ rfl rfl rfl rfl rfl (by kernel_rfl) Try.func4 (by kernel_rfl)
    (of_decide_eq_true (by kernel_rfl)) (by unfold Func.isWrapper; first | (rw [if_pos (by decide +kernel)]; kernel_rfl) | (rw [if_neg (by decide +kernel)]; exact ⟨rfl, rfl⟩))
    (fun os started H enc _ => lifted os started H enc)
theorem proved : Rows.FramePlaysSaid := over
#print axioms proved
end Go.Proofs.Ytobcboiemibkkaa.framePlays
namespace Go.Proofs.Ytobcboiemibkkaa
/-- The row, under a short name, for the claim. -/
theorem framePlays_holds : Rows.FramePlaysSaid := framePlays.proved
end Go.Proofs.Ytobcboiemibkkaa

/- The row of the law CodeTells: its walk is the engine's run (printed by mkLay.py after the kit's own print of rows). -/
import Derived.Test.YtlbjdkhpabpmiaaRows
import Derived.Test.YtlbjdkhpabpmiaaTellsC
import Derived.WalkKit
import Derived.ProofKit
import Derived.OpenShut
import Derived.ShutString
import Derived.ChangeOld
import Derived.Below
import Derived.SizedLaws
import Derived.Test.YtlbjdkhpabpmiaaE30
namespace Go.Proofs.Ytlbjdkhpabpmiaa.codeTells
open Go.ChangeShapes Go.WideShapes Go.ChangeAt Go.RowKit
open Go.ChangeMaps (open_string shut_string)
set_option linter.unusedVariables false
theorem own : ownKnob Try.prog.godebug = none := by kernel_rfl
theorem laidOut : laidOutB Try.prog = true := by kernel_rfl
set_option maxRecDepth 100000 in
theorem lifted (os : Os) (started : os.Started) (H : Type) (enc : TypeId × Value → H) :
    ReturnsInHanded {} Try.checked os 4 .any (Rows.codeTellsSpec.pre6 enc Try.prog Try.f4 Rows.codeTellsRow.domain false) (Rows.codeTellsSpec.post enc Try.prog Try.f4 false true false false) := by
  refine returnsInHanded_of_change_sized (C := Try.checked) own started (by kernel_rfl) Try.func4
    (ChangeSpec.witness6 (enc := enc) (C := Try.checked) false ⟨#[], #[.slice none 0 0, .int .i64 0, .int .i64 0, .int .i64 0, .int .i64 0, (.agg #[.int .i64 0, .int .i64 0, .slice none 0 0, .slice none 0 0])], []⟩ 8 (by kernel_rfl) (by kernel_rfl) (by kernel_rfl) (by kernel_rfl)) ?_
  intro W base args ds gs before hval0 hW hcnd hsz0 _
  have hval : ∀ (j : Nat) t v, Try.f4.params[j]? = some t → args[j]? = some v → Value.okWide Try.prog W .any base t v := hval0
  have hW' := hW
  obtain ⟨p, q, hA0, hV, rfl, hfz, hnd⟩ := hW
  have hA : DataW.TrodAll enc Try.prog W 0 (fun _ => true) true Try.f4.params.toList args.toList ds p := hA0
  rw [Try.params4] at hA hval
  obtain ⟨v0, vs0, d0, ds0, p0, q0, hargs, rfl, rfl, h0, r0⟩ := trodAll_cons hA
  obtain ⟨v1, vs1, d1, ds1, p1, q1, rfl, rfl, rfl, h1, r1⟩ := trodAll_cons r0
  obtain ⟨v2, vs2, d2, ds2, p2, q2, rfl, rfl, rfl, h2, r2⟩ := trodAll_cons r1
  obtain ⟨v3, vs3, d3, ds3, p3, q3, rfl, rfl, rfl, h3, r3⟩ := trodAll_cons r2
  obtain ⟨v4, vs4, d4, ds4, p4, q4, rfl, rfl, rfl, h4, r4⟩ := trodAll_cons r3
  obtain ⟨v5, vs5, d5, ds5, p5, q5, rfl, rfl, rfl, h5, r5⟩ := trodAll_cons r4
  obtain ⟨rfl, rfl, rfl⟩ := trodAll_nil r5
  obtain rfl : args = #[v0, v1, v2, v3, v4, v5] := by cases args; simp_all
  obtain ⟨rfl, rfl⟩ := trodVars_none hV
  have L0 := Go.Proofs.YtlbjdkhpabpmiaaE.lay_trod (B := W.heap.size) (d := 8) (ks := [(.sl [(.l (.i .i64))])]) (by kernel_rfl) h0
  obtain ⟨a0, len0, cap0, rfl⟩ := okWide_slice Try.underlying29 (hval 0 29 v0 rfl rfl)
  have k0 := h0
  have lt0 : ∀ x ∈ p0, x.block < W.heap.size := by obtain ⟨m, hm⟩ := k0; exact DataW.trod_lt m _ _ _ hm
  have L1 := Go.Proofs.YtlbjdkhpabpmiaaE.lay_trod (B := W.heap.size) (d := 8) (ks := [(.l (.i .i64))]) (by kernel_rfl) h1
  obtain ⟨a1, rfl, rfl, rfl, w1⟩ := open_int Try.underlying3 (hval 1 3 v1 rfl rfl) h1
  have L2 := Go.Proofs.YtlbjdkhpabpmiaaE.lay_trod (B := W.heap.size) (d := 8) (ks := [(.l (.i .i64))]) (by kernel_rfl) h2
  obtain ⟨a2, rfl, rfl, rfl, w2⟩ := open_int Try.underlying3 (hval 2 3 v2 rfl rfl) h2
  have L3 := Go.Proofs.YtlbjdkhpabpmiaaE.lay_trod (B := W.heap.size) (d := 8) (ks := [(.l (.i .i64))]) (by kernel_rfl) h3
  obtain ⟨a3, rfl, rfl, rfl, w3⟩ := open_int Try.underlying3 (hval 3 3 v3 rfl rfl) h3
  have L4 := Go.Proofs.YtlbjdkhpabpmiaaE.lay_trod (B := W.heap.size) (d := 8) (ks := [(.l (.i .i64))]) (by kernel_rfl) h4
  obtain ⟨a4, rfl, rfl, rfl, w4⟩ := open_int Try.underlying3 (hval 4 3 v4 rfl rfl) h4
  have L5 := Go.Proofs.YtlbjdkhpabpmiaaE.lay_trod (B := W.heap.size) (d := 8) (ks := [(.l (.i .i64)), (.l (.i .i64)), (.sl [(.l (.i .i64)), (.l (.i .i64))]), (.sl [(.l (.i .u8))])]) (by kernel_rfl) h5
  obtain ⟨a5, rfl⟩ := Go.Proofs.YtlbjdkhpabpmiaaE.agg_of_okWide (hval 5 37 v5 rfl rfl) (by kernel_rfl)
  have k5 := h5
  have lt5 : ∀ x ∈ p5, x.block < W.heap.size := by obtain ⟨m, hm⟩ := k5; exact DataW.trod_lt m _ _ _ hm
  have L : Go.Proofs.YtlbjdkhpabpmiaaE.Lay W.heap.size W [(.sl [(.l (.i .i64))]), (.l (.i .i64)), (.l (.i .i64)), (.l (.i .i64)), (.l (.i .i64)), .ag [(.l (.i .i64)), (.l (.i .i64)), (.sl [(.l (.i .i64)), (.l (.i .i64))]), (.sl [(.l (.i .u8))])]] [.slice a0 len0 cap0, .int .i64 a1, .int .i64 a2, .int .i64 a3, .int .i64 a4, .agg a5.toArray] := (Go.Proofs.YtlbjdkhpabpmiaaE.Lay.append L0 (Go.Proofs.YtlbjdkhpabpmiaaE.Lay.append L1 (Go.Proofs.YtlbjdkhpabpmiaaE.Lay.append L2 (Go.Proofs.YtlbjdkhpabpmiaaE.Lay.append L3 (Go.Proofs.YtlbjdkhpabpmiaaE.Lay.append L4 (Go.Proofs.YtlbjdkhpabpmiaaE.Lay.agg (ys := a5) L5))))))
  clear hA0 hval0 hsz0
  refine (Go.Proofs.YtlbjdkhpabpmiaaE.lay_calls Go.Proofs.YtlbjdkhpabpmiaaT.T_ok 4 W L Go.Proofs.YtlbjdkhpabpmiaaT.tells_law).mono fun e W' ⟨he, bel⟩ => ?_
  subst he
  exact ⟨_, rfl, _, _, _, [], _, [], hW', trodAll_mk1 (shut_bool Try.underlying4 _), (trodAll_cons_mk (Below.trod laidOut (by kernel_rfl) (of_decide_eq_true (by kernel_rfl)) k0 bel lt0) (trodAll_cons_mk (shut_int Try.underlying3 w1) (trodAll_cons_mk (shut_int Try.underlying3 w2) (trodAll_cons_mk (shut_int Try.underlying3 w3) (trodAll_cons_mk (shut_int Try.underlying3 w4) (trodAll_cons_mk (Below.trod laidOut (by kernel_rfl) (of_decide_eq_true (by kernel_rfl)) k5 bel lt5) trodAll_mk0)))))), rfl, bel.frame _, fun h => by cases h⟩
theorem over : Rows.codeTellsRow.holds Try.pinned (OpenSpec.ofChange Rows.codeTellsSpec) :=
  OpenClaim.holds_of_wide 4 Try.f4 rfl rfl rfl rfl rfl rfl rfl ⟨rfl, rfl, rfl, rfl, rfl⟩ rfl rfl rfl rfl rfl (by kernel_rfl) Try.func4 (by kernel_rfl)
    (of_decide_eq_true (by kernel_rfl)) (by unfold Func.isWrapper; first | (rw [if_pos (by decide +kernel)]; kernel_rfl) | (rw [if_neg (by decide +kernel)]; exact ⟨rfl, rfl⟩))
    (fun os started H enc _ => lifted os started H enc)
theorem proved : Rows.CodeTellsSaid := over
#print axioms proved
end Go.Proofs.Ytlbjdkhpabpmiaa.codeTells
namespace Go.Proofs.Ytlbjdkhpabpmiaa
/-- The row, under a short name, for the claim. -/
theorem codeTells_holds : Rows.CodeTellsSaid := codeTells.proved
end Go.Proofs.Ytlbjdkhpabpmiaa

/- The row of the law CodeEnds: its walk is the engine's run (printed by mkLay.py after the kit's own print of rows). -/
import Derived.Test.YtlbjdkhpabpmiaaRows
import Derived.Test.YtlbjdkhpabpmiaaEnds
import Derived.WalkKit
import Derived.ProofKit
import Derived.OpenShut
import Derived.ShutString
import Derived.ChangeOld
import Derived.Below
import Derived.SizedLaws
import Derived.Test.YtlbjdkhpabpmiaaE30
namespace Go.Proofs.Ytlbjdkhpabpmiaa.codeEnds
open Go.ChangeShapes Go.WideShapes Go.ChangeAt Go.RowKit
open Go.ChangeMaps (open_string shut_string)
set_option linter.unusedVariables false
theorem own : ownKnob Try.prog.godebug = none := by kernel_rfl
theorem laidOut : laidOutB Try.prog = true := by kernel_rfl
set_option maxRecDepth 100000 in
theorem lifted (os : Os) (started : os.Started) (H : Type) (enc : TypeId × Value → H) :
    ReturnsInHanded {} Try.checked os 6 .any (Rows.codeEndsSpec.pre6 enc Try.prog Try.f6 Rows.codeEndsRow.domain false) (Rows.codeEndsSpec.post enc Try.prog Try.f6 false true false false) := by
  refine returnsInHanded_of_change_sized (C := Try.checked) own started (by kernel_rfl) Try.func6
    (ChangeSpec.witness6 (enc := enc) (C := Try.checked) false ⟨#[], #[.int .i64 0, .int .i64 0, .int .i64 0], []⟩ 8 (by kernel_rfl) (by kernel_rfl) (by kernel_rfl) (by kernel_rfl)) ?_
  intro W base args ds gs before hval0 hW hcnd hsz0 _
  have hval : ∀ (j : Nat) t v, Try.f6.params[j]? = some t → args[j]? = some v → Value.okWide Try.prog W .any base t v := hval0
  have hW' := hW
  obtain ⟨p, q, hA0, hV, rfl, hfz, hnd⟩ := hW
  have hA : DataW.TrodAll enc Try.prog W 0 (fun _ => true) true Try.f6.params.toList args.toList ds p := hA0
  rw [Try.params6] at hA hval
  obtain ⟨v0, vs0, d0, ds0, p0, q0, hargs, rfl, rfl, h0, r0⟩ := trodAll_cons hA
  obtain ⟨v1, vs1, d1, ds1, p1, q1, rfl, rfl, rfl, h1, r1⟩ := trodAll_cons r0
  obtain ⟨v2, vs2, d2, ds2, p2, q2, rfl, rfl, rfl, h2, r2⟩ := trodAll_cons r1
  obtain ⟨rfl, rfl, rfl⟩ := trodAll_nil r2
  obtain rfl : args = #[v0, v1, v2] := by cases args; simp_all
  obtain ⟨rfl, rfl⟩ := trodVars_none hV
  have L0 := Go.Proofs.YtlbjdkhpabpmiaaE.lay_trod (B := W.heap.size) (d := 8) (ks := [(.l (.i .i64))]) (by kernel_rfl) h0
  obtain ⟨a0, rfl, rfl, rfl, w0⟩ := open_int Try.underlying3 (hval 0 3 v0 rfl rfl) h0
  have L1 := Go.Proofs.YtlbjdkhpabpmiaaE.lay_trod (B := W.heap.size) (d := 8) (ks := [(.l (.i .i64))]) (by kernel_rfl) h1
  obtain ⟨a1, rfl, rfl, rfl, w1⟩ := open_int Try.underlying3 (hval 1 3 v1 rfl rfl) h1
  have L2 := Go.Proofs.YtlbjdkhpabpmiaaE.lay_trod (B := W.heap.size) (d := 8) (ks := [(.l (.i .i64))]) (by kernel_rfl) h2
  obtain ⟨a2, rfl, rfl, rfl, w2⟩ := open_int Try.underlying3 (hval 2 3 v2 rfl rfl) h2
  have L : Go.Proofs.YtlbjdkhpabpmiaaE.Lay W.heap.size W [(.l (.i .i64)), (.l (.i .i64)), (.l (.i .i64))] [.int .i64 a0, .int .i64 a1, .int .i64 a2] := (Go.Proofs.YtlbjdkhpabpmiaaE.Lay.append L0 (Go.Proofs.YtlbjdkhpabpmiaaE.Lay.append L1 L2))
  clear hA0 hval0 hsz0
  refine (Go.Proofs.YtlbjdkhpabpmiaaE.lay_calls Go.Proofs.YtlbjdkhpabpmiaaT.T_ok 6 W L Go.Proofs.YtlbjdkhpabpmiaaT.ends_law).mono fun e W' ⟨he, bel⟩ => ?_
  subst he
  exact ⟨_, rfl, _, _, _, [], _, [], hW', trodAll_mk1 (shut_bool Try.underlying4 _), (trodAll_cons_mk (shut_int Try.underlying3 w0) (trodAll_cons_mk (shut_int Try.underlying3 w1) (trodAll_cons_mk (shut_int Try.underlying3 w2) trodAll_mk0))), rfl, bel.frame _, fun h => by cases h⟩
theorem over : Rows.codeEndsRow.holds Try.pinned (OpenSpec.ofChange Rows.codeEndsSpec) :=
  OpenClaim.holds_of_wide 6 Try.f6 rfl rfl rfl rfl rfl rfl rfl ⟨rfl, rfl, rfl, rfl, rfl⟩ rfl rfl rfl rfl rfl (by kernel_rfl) Try.func6 (by kernel_rfl)
    (of_decide_eq_true (by kernel_rfl)) (by unfold Func.isWrapper; first | (rw [if_pos (by decide +kernel)]; kernel_rfl) | (rw [if_neg (by decide +kernel)]; exact ⟨rfl, rfl⟩))
    (fun os started H enc _ => lifted os started H enc)
theorem proved : Rows.CodeEndsSaid := over
#print axioms proved
end Go.Proofs.Ytlbjdkhpabpmiaa.codeEnds
namespace Go.Proofs.Ytlbjdkhpabpmiaa
/-- The row, under a short name, for the claim. -/
theorem codeEnds_holds : Rows.CodeEndsSaid := codeEnds.proved
end Go.Proofs.Ytlbjdkhpabpmiaa

/- The engine, part 20: a call of the engine's is a call of the model's. -/
import Derived.Test.YtamfoplfbidolaaGreatDoorE19
namespace Go.Proofs.YtamfoplfbidolaaGreatDoorE
open Go Go.RowKit
set_option linter.unusedVariables false
set_option linter.unusedSimpArgs false

section
variable {P : Program} {T : FuncId → Option AF}

theorem CodePost.mk' {B : Nat} {m m' : Mp} {n : Nat} {r : Rs (Ex × List AV)} {w w' : World} {d0 : List Deferred} {e : Exit} {a : Act} (ex : ExR r.v.1 e) (df : a.defers = d0) (le : n ≤ r.nx) (below : Below B w w') (hx : Ext m m' n r.nx) (hr : HR B m' r.h w') (hv : VRs m' r.v.2 a.tmps.toList) :
    CodePost B m n r w d0 e a w' := ⟨ex, df, le, below, m', hx, hr, hv⟩

theorem code_step (hT : TableOk P T) (fuel : Nat) (ih : CodeS P T fuel) (il : LoopS P T fuel) : CodeS P T (fuel + 1) := by
  have hcall : CallS P (callN T fuel) := call_of_code hT ih
  have hft := callN_foot T fuel
  intro c ac hc B m h w ts a n lg r Q hlg e hr ht hf hQ
  cases c with
  | skip =>
    simp only [compC] at hc; cases hc
    unfold xC at e
    have e1 := A.ret_inv e; subst e1
    exact wp_skip (hQ _ _ _ (.mk' trivial rfl (Nat.le_refl n) (Below.refl B w) (Ext.refl m n) hr ht))
  | label l =>
    simp only [compC] at hc; cases hc
    unfold xC at e
    have e1 := A.ret_inv e; subst e1
    exact wp_label (hQ _ _ _ (.mk' trivial rfl (Nat.le_refl n) (Below.refl B w) (Ext.refl m n) hr ht))
  | exit id =>
    simp only [compC] at hc; cases hc
    unfold xC at e
    have e1 := A.ret_inv e; subst e1
    exact wp_exit (hQ _ _ _ (.mk' rfl rfl (Nat.le_refl n) (Below.refl B w) (Ext.refl m n) hr ht))
  | ret =>
    simp only [compC] at hc; cases hc
    unfold xC at e
    have e1 := A.ret_inv e; subst e1
    exact wp_ret (hQ _ _ _ (.mk' trivial rfl (Nat.le_refl n) (Below.refl B w) (Ext.refl m n) hr ht))
  | region id ops draw =>
    simp only [compC] at hc
    split at hc <;> first | (cases hc; done) | skip
    rename_i rs hrs
    cases draw with
    | false =>
      simp only at hc; cases hc
      unfold xC at e
      obtain ⟨r1, r2, e1, e2, rfl⟩ := A.bind_inv e
      have e3 := A.ret_inv e2; subst e3
      refine wp_region ?_
      have := regRun_sound hcall hft (Q := Q) (d0 := a.defers) 0 ops.toList rs (by simp) hrs hlg e1 hr ht hf rfl (fun m' a' w' g1 g2 g3 g4 g5 g6 => hQ _ _ _ (.mk' trivial g6 g5 g4 g1 g2 g3))
      simpa using this
    | true =>
      simp only at hc
      split at hc <;> first | (cases hc; done) | skip
      rename_i hok
      cases hc
      simp only [Bool.and_eq_true] at hok
      unfold xC at e
      obtain ⟨r1, r2, e1, e2, rfl⟩ := A.bind_inv e
      have e3 := A.ret_inv e2; subst e3
      change regDraw (callN T fuel) rs (Region.before ops).toList ts h n lg = some r1 at e1
      unfold regDraw at e1
      split at e1 <;> first | (cases e1; done) | skip
      rename_i q l hq
      split at e1 <;> first | (cases e1; done) | skip
      rename_i hap
      cases e1
      exact draw_sound hcall hft ⟨hrs, hok.1.1, hok.1.2, hq, hap⟩ hok.2 hr ht hf (fun m' a' w' g1 g2 g3 g4 g5 g6 => hQ _ _ _ (.mk' trivial g6 g5 g4 g1 g2 g3)) id
  | seq x y =>
    simp only [compC] at hc
    split at hc <;> first | (cases hc; done) | skip
    rename_i ax ay hx hy
    cases hc
    unfold xC at e
    obtain ⟨r1, r2, e1, e2, rfl⟩ := A.bind_inv e
    have hle1 := (Foot.code T fuel ax ts h n lg r1 hlg e1).le
    have hle2 : r1.nx ≤ r2.nx := by
      cases hx : r1.v.1 with
      | nor => rw [hx] at e2; exact (Foot.code T fuel ay _ r1.h r1.nx lg r2 (Nat.le_trans hlg hle1) e2).le
      | exit i => rw [hx] at e2; have := A.ret_inv e2; subst this; exact Nat.le_refl _
      | ret => rw [hx] at e2; have := A.ret_inv e2; subst this; exact Nat.le_refl _
    refine wp_seq (ih x ax hx hlg e1 hr ht (fun b h1 h2 => hf b h1 (Nat.lt_of_lt_of_le h2 hle2)) fun e' a' w' cp => ?_)
    obtain ⟨ex, df, le, below, m', g1, g2, g3⟩ := cp
    cases hx : r1.v.1 with
    | nor =>
      rw [hx] at e2 ex
      cases e' <;> simp only [ExR] at ex
      simp only [Exit.then]
      refine ih y ay hy (Nat.le_trans hlg hle1) e2 g2 g3 (Fresh.ext (n := n) hf g1 hle1) fun e2' a2 w2 cp2 => hQ _ _ _ ?_
      rw [df] at cp2
      exact (CodePost.trans g1 below hle1 cp2).logs
    | exit i =>
      rw [hx] at e2 ex
      have e3 := A.ret_inv e2; subst e3
      cases e' <;> simp only [ExR] at ex
      exact hQ _ _ _ (.mk' (by simp only; rw [hx]; exact ex) df le below g1 g2 g3)
    | ret =>
      rw [hx] at e2 ex
      have e3 := A.ret_inv e2; subst e3
      cases e' <;> simp only [ExR] at ex
      exact hQ _ _ _ (.mk' (by simp only; rw [hx]; exact trivial) df le below g1 g2 g3)
  | cond q x y =>
    simp only [compC] at hc
    split at hc <;> first | (cases hc; done) | skip
    rename_i aq ax ay hq hx hy
    cases hc
    unfold xC at e
    have hv := cX_sound ht hq
    generalize aq.ev ts = v at e hv
    cases v <;> first | (simp [A.fail] at e; done) | skip
    rename_i b
    have hb := hv.bool_inv
    cases b with
    | true => exact wp_cond hb (ih x ax hx hlg e hr ht hf hQ)
    | false => exact wp_cond hb (ih y ay hy hlg e hr ht hf hQ)
  | block id x =>
    simp only [compC] at hc
    obtain ⟨ax, hx, rfl⟩ := Option.map_eq_some_iff.1 hc
    unfold xC at e
    obtain ⟨r1, r2, e1, e2, rfl⟩ := A.bind_inv e
    have hsame : r2.nx = r1.nx := by
      cases hx : r1.v.1 with
      | nor => rw [hx] at e2; have := A.ret_inv e2; subst this; rfl
      | exit i =>
        rw [hx] at e2; simp only at e2
        cases hb : Nat.beq i id <;> rw [hb] at e2 <;> (have := A.ret_inv e2; subst this; rfl)
      | ret => rw [hx] at e2; have := A.ret_inv e2; subst this; rfl
    refine wp_block (ih x ax hx hlg e1 hr ht (fun b h1 h2 => hf b h1 (by simp only; omega)) fun e' a' w' cp => ?_)
    obtain ⟨ex, df, le, below, m', g1, g2, g3⟩ := cp
    cases hx : r1.v.1 with
    | nor =>
      rw [hx] at e2 ex
      have e3 := A.ret_inv e2; subst e3
      cases e' <;> simp only [ExR] at ex
      exact hQ _ _ _ (.mk' (by simp only; rw [hx]; exact trivial) df le below g1 g2 g3)
    | ret =>
      rw [hx] at e2 ex
      have e3 := A.ret_inv e2; subst e3
      cases e' <;> simp only [ExR] at ex
      exact hQ _ _ _ (.mk' (by simp only; rw [hx]; exact trivial) df le below g1 g2 g3)
    | exit i =>
      rw [hx] at e2 ex
      cases e' <;> simp only [ExR] at ex
      subst ex
      simp only at e2
      cases hb : Nat.beq i id with
      | true =>
        rw [hb] at e2
        have e3 := A.ret_inv e2; subst e3
        have := Nat.eq_of_beq_eq_true hb
        subst this
        simp only [Exit.inBlock, if_true]
        exact hQ _ _ _ (.mk' trivial df le below g1 g2 g3)
      | false =>
        rw [hb] at e2
        have e3 := A.ret_inv e2; subst e3
        have hne : i ≠ id := fun h => by subst h; simp at hb
        simp only [Exit.inBlock, if_neg hne]
        exact hQ _ _ _ (.mk' (by simp only; rw [hx]; rfl) df le below g1 g2 g3)
  | loop x =>
    simp only [compC] at hc
    obtain ⟨ax, hx, rfl⟩ := Option.map_eq_some_iff.1 hc
    refine wp_loop_rounds (fuel + 1) ?_
    unfold xC at e
    obtain ⟨r1, r2, e1, e2, rfl⟩ := A.bind_inv e
    have hle1 := (Foot.code T fuel ax ts h n lg r1 hlg e1).le
    have hle2 : r1.nx ≤ r2.nx := by
      cases hx : r1.v.1 with
      | nor => rw [hx] at e2; exact (Foot.code T fuel _ _ r1.h r1.nx lg r2 (Nat.le_trans hlg hle1) e2).le
      | exit i => rw [hx] at e2; have := A.ret_inv e2; subst this; exact Nat.le_refl _
      | ret => rw [hx] at e2; have := A.ret_inv e2; subst this; exact Nat.le_refl _
    rw [rounds_succ]
    refine ih x ax hx hlg e1 hr ht (fun b h1 h2 => hf b h1 (Nat.lt_of_lt_of_le h2 hle2)) fun e' a' w' cp => ?_
    obtain ⟨ex, df, le, below, m', g1, g2, g3⟩ := cp
    cases hx' : r1.v.1 with
    | nor =>
      rw [hx'] at e2 ex
      cases e' <;> simp only [ExR] at ex
      simp only [Exit.then]
      refine il x ax hx (Nat.le_trans hlg hle1) e2 g2 g3 (Fresh.ext (n := n) hf g1 hle1) fun e2' a2 w2 cp2 => hQ _ _ _ ?_
      rw [df] at cp2
      exact (CodePost.trans g1 below hle1 cp2).logs
    | exit i =>
      rw [hx'] at e2 ex
      have e3 := A.ret_inv e2; subst e3
      cases e' <;> simp only [ExR] at ex
      exact hQ _ _ _ (.mk' (by simp only; rw [hx']; exact ex) df le below g1 g2 g3)
    | ret =>
      rw [hx'] at e2 ex
      have e3 := A.ret_inv e2; subst e3
      cases e' <;> simp only [ExR] at ex
      exact hQ _ _ _ (.mk' (by simp only; rw [hx']; exact trivial) df le below g1 g2 g3)
  | rangeFunc => simp [compC] at hc
  | scope => simp [compC] at hc
  | goto => simp [compC] at hc
  | refuse => simp [compC] at hc

theorem loop_step (fuel : Nat) (ih : CodeS P T fuel) (il : LoopS P T fuel) : LoopS P T (fuel + 1) := by
  intro x ax hx B m h w ts a n lg r Q hlg e hr ht hf hQ
  unfold xC at e
  obtain ⟨r1, r2, e1, e2, rfl⟩ := A.bind_inv e
  have hle1 := (Foot.code T fuel ax ts h n lg r1 hlg e1).le
  have hle2 : r1.nx ≤ r2.nx := by
    cases hx : r1.v.1 with
    | nor => rw [hx] at e2; exact (Foot.code T fuel _ _ r1.h r1.nx lg r2 (Nat.le_trans hlg hle1) e2).le
    | exit i => rw [hx] at e2; have := A.ret_inv e2; subst this; exact Nat.le_refl _
    | ret => rw [hx] at e2; have := A.ret_inv e2; subst this; exact Nat.le_refl _
  rw [rounds_succ]
  refine ih x ax hx hlg e1 hr ht (fun b h1 h2 => hf b h1 (Nat.lt_of_lt_of_le h2 hle2)) fun e' a' w' cp => ?_
  obtain ⟨ex, df, le, below, m', g1, g2, g3⟩ := cp
  cases hx' : r1.v.1 with
  | nor =>
    rw [hx'] at e2 ex
    cases e' <;> simp only [ExR] at ex
    simp only [Exit.then]
    refine il x ax hx (Nat.le_trans hlg hle1) e2 g2 g3 (Fresh.ext (n := n) hf g1 hle1) fun e2' a2 w2 cp2 => hQ _ _ _ ?_
    rw [df] at cp2
    exact (CodePost.trans g1 below hle1 cp2).logs
  | exit i =>
    rw [hx'] at e2 ex
    have e3 := A.ret_inv e2; subst e3
    cases e' <;> simp only [ExR] at ex
    exact hQ _ _ _ (.mk' (by simp only; rw [hx']; exact ex) df le below g1 g2 g3)
  | ret =>
    rw [hx'] at e2 ex
    have e3 := A.ret_inv e2; subst e3
    cases e' <;> simp only [ExR] at ex
    exact hQ _ _ _ (.mk' (by simp only; rw [hx']; exact trivial) df le below g1 g2 g3)

theorem code_sound (hT : TableOk P T) : ∀ fuel, CodeS P T fuel ∧ LoopS P T fuel
  | 0 => ⟨fun c ac hc B m h w ts a n lg r Q hlg e hr ht hf hQ => by unfold xC at e; simp [A.fail] at e, fun c ac hc B m h w ts a n lg r Q hlg e hr ht hf hQ => by unfold xC at e; simp [A.fail] at e⟩
  | fuel + 1 => ⟨code_step hT fuel (code_sound hT fuel).1 (code_sound hT fuel).2, loop_step fuel (code_sound hT fuel).1 (code_sound hT fuel).2⟩

/-- WHAT THE ENGINE IS FOR: a call that the engine runs comes, in the model, to the same answer. -/
theorem call_sound (hT : TableOk P T) (fuel : Nat) : CallS P (xF T fuel) := call_of_code hT (code_sound hT fuel).1

end
end Go.Proofs.YtamfoplfbidolaaGreatDoorE

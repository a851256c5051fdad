/- The engine, part 19: code and calls. -/
import Derived.Test.YtamfoplfbidolaaGreatDoorE18
namespace Go.Proofs.YtamfoplfbidolaaGreatDoorE
open Go Go.RowKit
set_option linter.unusedVariables false
set_option linter.unusedSimpArgs false

def ExR : Ex → Exit → Prop
  | .nor, .normal => True
  | .exit i, .exit j => i = j
  | .ret, .ret => True
  | _, _ => False

/-- What is known behind a piece of code. -/
structure CodePost (B : Nat) (m : Mp) (n : Nat) (r : Rs (Ex × List AV)) (w : World) (d0 : List Deferred) (e : Exit) (a : Act) (w' : World) : Prop where
  ex : ExR r.v.1 e
  df : a.defers = d0
  le : n ≤ r.nx
  below : Below B w w'
  some : ∃ m', Ext m m' n r.nx ∧ HR B m' r.h w' ∧ VRs m' r.v.2 a.tmps.toList

theorem CodePost.trans {B : Nat} {m m1 : Mp} {n n1 : Nat} {r : Rs (Ex × List AV)} {w w1 : World} {d0 : List Deferred} {e : Exit} {a : Act} {w' : World} (hx : Ext m m1 n n1) (hb : Below B w w1) (hle : n ≤ n1) (h : CodePost B m1 n1 r w1 d0 e a w') : CodePost B m n r w d0 e a w' := by
  obtain ⟨ex, df, le, below, m', g1, g2, g3⟩ := h
  exact ⟨ex, df, Nat.le_trans hle le, hb.trans below, m', hx.trans g1 hle le, g2, g3⟩
theorem CodePost.logs {B : Nat} {m : Mp} {n : Nat} {v : Ex × List AV} {h : Mem} {nx tc wr tc' wr' : Nat} {w : World} {d0 : List Deferred} {e : Exit} {a : Act} {w' : World} (p : CodePost B m n ⟨v, h, nx, tc, wr⟩ w d0 e a w') : CodePost B m n ⟨v, h, nx, tc', wr'⟩ w d0 e a w' :=
  ⟨p.ex, p.df, p.le, p.below, p.some⟩

/-! ### Results -/
theorem resA_run {P : Program} {B : Nat} {m : Mp} {h : Mem} {w : World} {ts : List AV} {tmps : Array Value} {n lg : Nat} (hr : HR B m h w) (ht : VRs m ts tmps.toList) {q : ResultVar} {rest : List ResultVar} {ra : ARes} {l : List ARes} (hc : compRes P (q :: rest) = some (ra :: l))
    {r : Rs AV} (e : resA ts ra h n lg = some r) : compRes P rest = some l ∧ ∃ u, (match q with | .tmp t => pure (tmps.getD t undef) | .cell a t => (do loadVar t (← asAddr (tmps.getD a undef))) : Sem Value).run P w = .ok u w ∧ VR m r.v u ∧ r.h = h ∧ r.nx = n := by
  have getD : ∀ i, VR m (ts.getD i (.tup [])) (tmps.getD i undef) := fun i => by
    have := ht.getD i
    simpa [Array.getD_eq_getD_getElem?, List.getD_eq_getElem?_getD] using this
  cases q with
  | tmp t =>
    simp only [compRes] at hc
    obtain ⟨l', hl, e'⟩ := Option.map_eq_some_iff.1 hc
    injection e' with e1 e2; subst e1; subst e2
    simp only [resA] at e
    have e1 := A.ret_inv e; subst e1
    exact ⟨hl, _, rfl, getD t, rfl, rfl⟩
  | cell a t =>
    simp only [compRes] at hc
    split at hc <;> first | (cases hc; done) | skip
    rename_i k l' hk hl
    injection hc with hc; injection hc with e1 e2; subst e1; subst e2
    simp only [resA] at e
    have hv := getD a
    generalize ts.getD a (.tup []) = x at e hv
    cases x <;> first | (simp [A.fail] at e; done) | skip
    rename_i b off
    obtain ⟨lc, hlc, hmc, hp⟩ := hv.ptr_inv
    obtain ⟨r1, r2, e1, e2, rfl⟩ := A.bind_inv e
    obtain ⟨q, hq, rfl⟩ := rdBlk_inv e1
    obtain ⟨v, hv', rfl⟩ := A.ofOpt_inv e2
    obtain ⟨u, hu, hvu⟩ := run_loadVar_of (P := P) hk (hr.at hq hlc hmc) hv'
    refine ⟨hl, u, ?_, hvu, rfl, rfl⟩
    simp only [hp, asAddr, Sem.run_bind, Sem.run_pure, Result.andThen_ok, hu]

theorem resAll_run {P : Program} {B : Nat} {m : Mp} {h : Mem} {w : World} {ts : List AV} {tmps : Array Value} (hr : HR B m h w) (ht : VRs m ts tmps.toList) : ∀ (qs : List ResultVar) (l : List ARes) (n lg : Nat) (r : Rs (List AV)), compRes P qs = some l → resAll ts l h n lg = some r →
    ∃ us : List Value, (qs.mapM (fun q => (match q with | .tmp t => pure (tmps.getD t undef) | .cell a t => (do loadVar t (← asAddr (tmps.getD a undef))) : Sem Value))).run P w = .ok us w ∧ VRs m r.v us ∧ r.h = h ∧ r.nx = n
  | [], l, n, lg, r, hc, e => by
    cases hc
    simp only [resAll] at e
    have e1 := A.ret_inv e; subst e1
    exact ⟨[], by simp, VRs.nil, rfl, rfl⟩
  | q :: qs, l, n, lg, r, hc, e => by
    cases l with
    | nil =>
      cases q with
      | tmp t => simp only [compRes] at hc; obtain ⟨_, _, e'⟩ := Option.map_eq_some_iff.1 hc; cases e'
      | cell a t => simp only [compRes] at hc; split at hc <;> cases hc
    | cons ra l =>
      simp only [resAll] at e
      obtain ⟨r1, r2, e1, e2, rfl⟩ := A.bind_inv e
      obtain ⟨hc', u, hu, hvu, h1, h2⟩ := resA_run hr ht hc e1
      obtain ⟨v1, hh, nn, tc, wr⟩ := r1
      simp only at h1 h2 hvu e2
      subst h1; subst h2
      obtain ⟨r3, r4, e3, e4, rfl⟩ := A.bind_inv e2
      have e5 := A.ret_inv e4; subst e5
      obtain ⟨us, hus, hvs, h3, h4⟩ := resAll_run hr ht qs l _ lg r3 hc' e3
      refine ⟨u :: us, ?_, VRs.cons_iff.2 ⟨hvu, hvs⟩, h3, h4⟩
      rw [List.mapM_cons]
      simp only [Sem.run_bind, hu, Result.andThen_ok, hus, Sem.run_pure]

theorem results_run {P : Program} {B : Nat} {m : Mp} {h : Mem} {w : World} {ts : List AV} {tmps : Array Value} (hr : HR B m h w) (ht : VRs m ts tmps.toList) {fn : Func} {l : List ARes} {n lg : Nat} {r : Rs (List AV)} (hc : compRes P fn.results.toList = some l) (e : resAll ts l h n lg = some r) :
    ∃ u, (results fn tmps).run P w = .ok u w ∧ VR m (oneOf r.v) u ∧ r.h = h ∧ r.nx = n := by
  obtain ⟨us, hus, hvs, h1, h2⟩ := resAll_run hr ht fn.results.toList l n lg r hc e
  refine ⟨if hz : us.toArray.size = 1 then us.toArray[0] else .tuple us.toArray, ?_, ?_, h1, h2⟩
  · unfold results
    rw [Array.mapM_eq_mapM_toList]
    simp only [Sem.run_bind, Sem.run_map]
    generalize hG : (List.mapM (m := Sem) _ fn.results.toList) = G
    have hg : G.run P w = .ok us w := by rw [← hG]; exact hus
    rw [hg]
    rfl
  · have hl := hvs.length
    generalize r.v = vs at hvs hl
    cases vs with
    | nil =>
      rw [VRs.nil_iff.1 hvs]
      simp only [oneOf]
      rw [dif_neg (by simp)]
      simp only [VR]; exact ⟨[], rfl, VRs.nil⟩
    | cons v vs =>
      cases vs with
      | nil =>
        simp only [VRs] at hvs
        obtain ⟨y, zs, rfl, hy, rfl⟩ := hvs
        simp only [oneOf]
        rw [dif_pos (by simp)]
        exact hy
      | cons v2 vs =>
        have : oneOf (v :: v2 :: vs) = .tup (v :: v2 :: vs) := rfl
        rw [this, dif_neg (by simp [hl])]
        simp only [VR]; exact ⟨us, rfl, hvs⟩

theorem resAll_len {h : Mem} {ts : List AV} : ∀ (l : List ARes) {n lg : Nat} {r : Rs (List AV)}, resAll ts l h n lg = some r → ∃ us : List AV, us = r.v ∧ True ∧ r.h = h ∧ r.nx = n
  | [], n, lg, r, e => by
    simp only [resAll] at e
    have e1 := A.ret_inv e; subst e1
    exact ⟨[], rfl, trivial, rfl, rfl⟩
  | ra :: l, n, lg, r, e => by
    simp only [resAll] at e
    obtain ⟨r1, r2, e1, e2, rfl⟩ := A.bind_inv e
    obtain ⟨r3, r4, e3, e4, rfl⟩ := A.bind_inv e2
    have e5 := A.ret_inv e4; subst e5
    have h1 : r1.h = h ∧ r1.nx = n := by
      cases ra with
      | tmp i => simp only [resA] at e1; have := A.ret_inv e1; subst this; exact ⟨rfl, rfl⟩
      | cell i q =>
        simp only [resA] at e1
        generalize ts.getD i (.tup []) = x at e1
        cases x <;> first | (simp [A.fail] at e1; done) | skip
        obtain ⟨r5, r6, e5, e6, rfl⟩ := A.bind_inv e1
        obtain ⟨q, hq, rfl⟩ := rdBlk_inv e5
        obtain ⟨v, hv', rfl⟩ := A.ofOpt_inv e6
        exact ⟨rfl, rfl⟩
    obtain ⟨v1, hh, nn, tc, wr⟩ := r1
    simp only at h1 e3
    obtain ⟨rfl, rfl⟩ := h1
    obtain ⟨us, _, _, h2, h3⟩ := resAll_len l e3
    exact ⟨_, rfl, trivial, h2, h3⟩

/-! ### Code -/
/-- A call of the engine's over a certain number of rounds. -/
def callN (T : FuncId → Option AF) (n : Nat) : FuncId → List AV → A AV := fun f args => match T f with
      | none => A.fail
      | some F => A.bind (xC T n F.body (args ++ List.replicate (F.nt - args.length) (.tup []))) fun r => match r.1 with
        | .exit _ => A.fail
        | _ => A.bind (resAll r.2 F.res) fun vs => A.ret (oneOf vs)
theorem callN_foot (T : FuncId → Option AF) (n : Nat) : ∀ f xs, Foot (callN T n f xs) := fun f xs => Foot.fn T n f xs

section
variable {P : Program} {T : FuncId → Option AF}

def CodeS (P : Program) (T : FuncId → Option AF) (fuel : Nat) : Prop :=
  ∀ (c : Code) (ac : AC), compC P c = some ac → ∀ {B : Nat} {m : Mp} {h : Mem} {w : World} {ts : List AV} {a : Act} {n lg : Nat} {r : Rs (Ex × List AV)} {Q : Exit → Act → World → Prop}, lg ≤ n → xC T fuel ac ts h n lg = some r → HR B m h w → VRs m ts a.tmps.toList → Fresh m n r.nx →
    (∀ e a' w', CodePost B m n r w a.defers e a' w' → Q e a' w') → c.wp P Q a w
def LoopS (P : Program) (T : FuncId → Option AF) (fuel : Nat) : Prop :=
  ∀ (c : Code) (ac : AC), compC P c = some ac → ∀ {B : Nat} {m : Mp} {h : Mem} {w : World} {ts : List AV} {a : Act} {n lg : Nat} {r : Rs (Ex × List AV)} {Q : Exit → Act → World → Prop}, lg ≤ n → xC T fuel (.loop ac) ts h n lg = some r → HR B m h w → VRs m ts a.tmps.toList → Fresh m n r.nx →
    (∀ e a' w', CodePost B m n r w a.defers e a' w' → Q e a' w') → Code.rounds P c Q fuel a w

theorem call_of_code (hT : TableOk P T) {fuel : Nat} (hc : CodeS P T fuel) : CallS P (callN T fuel) := by
  intro f xs h n lg0 r vals m B w hlg e hr hv hf
  unfold callN at e
  cases hF : T f with
  | none => rw [hF] at e; simp [A.fail] at e
  | some F =>
    rw [hF] at e
    obtain ⟨r1, r2, e1, e2, rfl⟩ := A.bind_inv e
    have hcf := hT f F hF
    unfold compF at hcf
    split at hcf <;> first | (cases hcf; done) | skip
    rename_i fn hfn
    split at hcf <;> first | (cases hcf; done) | skip
    rename_i c hbody
    split at hcf <;> first | (cases hcf; done) | skip
    rename_i ac l hac hres hname
    cases hcf
    refine ⟨⟨fn, hfn, hname, by rw [hbody]; rfl⟩, ?_⟩
    have hle1 := (Foot.code T fuel ac _ h n lg0 r1 hlg e1).le
    have hargs : VRs m (xs ++ List.replicate (fn.ntmps - xs.length) (.tup [])) (vals.toArray ++ Array.replicate (fn.ntmps - vals.toArray.size) undef).toList := by
      have hl := hv.length
      simp only [Array.toList_append, Array.toList_replicate, List.size_toArray, hl]
      exact VRs.append hv (VRs.replicate VR.undef _)
    refine calls_of_wp hfn hbody ?_
    have e2' : r2.nx = r1.nx ∧ (∃ vs, resAll r1.v.2 l r1.h r1.nx lg0 = some vs ∧ r2.v = oneOf vs.v ∧ r2.h = vs.h) ∧ (∀ i, r1.v.1 ≠ .exit i) := by
      cases hx : r1.v.1 with
      | exit i => rw [hx] at e2; simp [A.fail] at e2
      | nor =>
        rw [hx] at e2
        obtain ⟨r3, r4, e3, e4, rfl⟩ := A.bind_inv e2
        have e5 := A.ret_inv e4; subst e5
        refine ⟨?_, ⟨r3, e3, rfl, rfl⟩, fun i h => by cases h⟩
        obtain ⟨us, _, _, _, h2⟩ := resAll_len l e3
        exact h2
      | ret =>
        rw [hx] at e2
        obtain ⟨r3, r4, e3, e4, rfl⟩ := A.bind_inv e2
        have e5 := A.ret_inv e4; subst e5
        refine ⟨?_, ⟨r3, e3, rfl, rfl⟩, fun i h => by cases h⟩
        obtain ⟨us, _, _, _, h2⟩ := resAll_len l e3
        exact h2
    obtain ⟨hnx, ⟨vs, hvs, hv2, hh2⟩, hne⟩ := e2'
    refine hc c ac hac hlg e1 hr hargs (fun b h1 h2 => hf b h1 (by simp only; omega)) fun e' a' w' cp => ?_
    obtain ⟨ex, df, le, below, m', g1, g2, g3⟩ := cp
    obtain ⟨u, hu, hvu, h1, h2⟩ := results_run (P := P) g2 g3 hres hvs
    have fin : a'.defers = [] ∧ ∃ v, (results fn a'.tmps).run P w' = .ok v w' ∧ CallPost B m n ⟨r2.v, r2.h, r2.nx, r1.tc ||| r2.tc, r1.wr ||| r2.wr⟩ w (.returned v) w' := by
      refine ⟨df, u, hu, m', u, rfl, ?_, ?_, ?_, below, ?_⟩
      · simp only; rw [hnx]; exact g1
      · simp only; rw [hh2, h1]; exact g2
      · simp only; rw [hv2]; exact hvu
      · simp only; omega
    cases hx : r1.v.1 with
    | exit i => exact absurd hx (hne i)
    | nor =>
      rw [hx] at ex
      cases e' <;> simp only [ExR] at ex
      exact fin
    | ret =>
      rw [hx] at ex
      cases e' <;> simp only [ExR] at ex
      exact fin

end
end Go.Proofs.YtamfoplfbidolaaGreatDoorE

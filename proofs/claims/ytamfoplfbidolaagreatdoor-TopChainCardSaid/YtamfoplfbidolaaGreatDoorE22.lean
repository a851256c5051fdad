/- The engine, part 22: what serves a symbolic run. -/
import Derived.Test.YtamfoplfbidolaaGreatDoorE21
namespace Go.Proofs.YtamfoplfbidolaaGreatDoorE
open Go Go.RowKit
set_option linter.unusedVariables false
set_option linter.unusedSimpArgs false

theorem mn2 (a b : Int) : (if b < a then b else a) = min a b := by omega
theorem mx2 (a b : Int) : (if b > a then b else a) = max a b := by omega
theorem mx3 (a b : Int) : (if a < b then b else a) = max a b := by omega
theorem blt_of {a b : Nat} (h : a < b) : Nat.blt a b = true := Nat.ble_eq_true_of_le h
theorem lowBits_or (lg a b : Nat) : lowBits lg (a ||| b) = lowBits lg a ||| lowBits lg b := by
  apply Nat.eq_of_testBit_eq; intro i
  rw [lowBits_test, Nat.testBit_or, Nat.testBit_or, lowBits_test, lowBits_test]
  cases decide (i < lg) <;> simp
theorem lowBits_pow (lg p : Nat) : lowBits lg (2 ^ p) = bit lg p := by
  apply Nat.eq_of_testBit_eq; intro i
  rw [lowBits_test, bit_test, Nat.testBit_two_pow]
  by_cases h : p = i
  · subst h; simp
  · simp [h, Ne.symm h]
theorem lowBits_zero (lg : Nat) : lowBits lg 0 = 0 := by unfold lowBits; simp
theorem bit_zero (b : Nat) : bit 0 b = 0 := by unfold bit; cases h : Nat.blt b 0 <;> simp_all [Nat.blt]
theorem bit_hi {lg b : Nat} (h : b < lg) : bit lg b = 2 ^ b := by unfold bit; rw [blt_of h]
theorem bit_self (lg b : Nat) : bit lg b ||| bit lg b = bit lg b := Nat.or_self _

/-- The engine's answer is 'true'. -/
def okB (r : Option (Rs AV)) : Bool := match r with
  | some ⟨.bool true, _, _, _, _⟩ => true
  | _ => false
theorem okB_some {r : Option (Rs AV)} (h : okB r = true) : ∃ h' n' tc wr, r = some ⟨.bool true, h', n', tc, wr⟩ := by
  unfold okB at h
  split at h
  · exact ⟨_, _, _, _, rfl⟩
  · cases h

/-! ### More rounds give the same answer -/
theorem bind_mono {α β : Type} {x x' : A α} {f f' : α → A β} {h : Mem} {n lg : Nat} {r : Rs β} (hx : ∀ r1, x h n lg = some r1 → x' h n lg = some r1) (hf : ∀ r1 r2, x h n lg = some r1 → f r1.v r1.h r1.nx lg = some r2 → f' r1.v r1.h r1.nx lg = some r2) (e : A.bind x f h n lg = some r) : A.bind x' f' h n lg = some r := by
  obtain ⟨r1, r2, e1, e2, rfl⟩ := A.bind_inv e
  unfold A.bind
  rw [hx r1 e1]
  simp only [hf r1 r2 e1 e2]

def CMono (c c' : FuncId → List AV → A AV) : Prop := ∀ f xs h n lg r, c f xs h n lg = some r → c' f xs h n lg = some r
theorem opRun_mono {c c' : FuncId → List AV → A AV} (hc : CMono c c') {ts : List AV} {o : AOp} {h : Mem} {n lg : Nat} {r : Rs AV} (e : opRun c ts o h n lg = some r) : opRun c' ts o h n lg = some r := by
  cases o with
  | call f xs => exact hc _ _ _ _ _ _ e
  | callv x xs =>
    simp only [opRun] at e ⊢
    generalize x.ev ts = v at e ⊢
    cases v <;> first | exact e | skip
    rename_i f fs cs
    dsimp only at e ⊢
    cases hmk : Nat.beq f 4294967295 with
    | true => rw [hmk] at e; exact e
    | false => rw [hmk] at e; exact hc _ _ _ _ _ _ e
  | inv rows x xs =>
    simp only [opRun] at e ⊢
    generalize x.ev ts = v at e ⊢
    cases v <;> first | exact e | skip
    rename_i t v
    dsimp only at e ⊢
    generalize rowA rows t = q at e ⊢
    rcases q with _ | ⟨_ | d, f⟩
    · exact e
    · exact hc _ _ _ _ _ _ e
    · dsimp only at e ⊢
      cases v <;> first | exact e | skip
      have key : ∀ (q : Option AV) (h : Mem) (n : Nat) (r : Rs AV), (match q with | some u => c f (u :: xs.map (·.ev ts)) | none => A.fail : A AV) h n lg = some r → (match q with | some u => c' f (u :: xs.map (·.ev ts)) | none => A.fail : A AV) h n lg = some r := by
        intro q h n r e
        cases q with
        | none => exact e
        | some u => exact hc _ _ _ _ _ _ e
      exact bind_mono (fun r1 e1 => e1) (fun r1 r2 _ e2 => key _ _ _ _ e2) e
  | len b x => cases b <;> exact e
  | un op x => exact e
  | _ => exact e
theorem stepR_mono {c c' : FuncId → List AV → A AV} (hc : CMono c c') {ts : List AV} {o : AR} {h : Mem} {n lg : Nat} {r : Rs AV} (e : stepR c ts o h n lg = some r) : stepR c' ts o h n lg = some r := by
  unfold stepR at e ⊢
  cases hw : wantA ts o.guard with
  | false => rw [hw] at e; exact e
  | true => rw [hw] at e; exact opRun_mono hc e
theorem regRun_mono {c c' : FuncId → List AV → A AV} (hc : CMono c c') : ∀ {rs : List AR} {ts : List AV} {h : Mem} {n lg : Nat} {r : Rs (List AV)}, regRun c rs ts h n lg = some r → regRun c' rs ts h n lg = some r
  | [], ts, h, n, lg, r, e => e
  | o :: rs, ts, h, n, lg, r, e => by
    unfold regRun at e ⊢
    exact bind_mono (fun r1 e1 => stepR_mono hc e1) (fun r1 r2 _ e2 => regRun_mono hc e2) e
theorem regLog_mono {c c' : FuncId → List AV → A AV} (hc : CMono c c') : ∀ {rs : List AR} {ts : List AV} {h : Mem} {n : Nat} {q : Rs (List AV) × List (Nat × Nat)}, regLog c rs ts h n = some q → regLog c' rs ts h n = some q
  | [], ts, h, n, q, e => e
  | o :: rs, ts, h, n, (q, l), e => by
    obtain ⟨s, q', l', e1, e2, rfl, rfl⟩ := regLog_inv e
    simp only [regLog, stepR_mono hc e1, regLog_mono hc e2]
theorem regDraw_mono {c c' : FuncId → List AV → A AV} (hc : CMono c c') {rs : List AR} {bef : List Nat} {ts : List AV} {h : Mem} {n lg : Nat} {r : Rs (List AV)} (e : regDraw c rs bef ts h n lg = some r) : regDraw c' rs bef ts h n lg = some r := by
  unfold regDraw at e ⊢
  split at e
  · cases e
  · rename_i q l hq
    rw [regLog_mono hc hq]
    exact e

theorem xC_mono (T : FuncId → Option AF) : ∀ (n m : Nat) (c : AC) (ts : List AV) (h : Mem) (nx lg : Nat) (r : Rs (Ex × List AV)), n ≤ m → xC T n c ts h nx lg = some r → xC T m c ts h nx lg = some r
  | 0, m, c, ts, h, nx, lg, r, _, e => by unfold xC at e; simp [A.fail] at e
  | n + 1, 0, c, ts, h, nx, lg, r, hle, e => by omega
  | n + 1, m + 1, c, ts, h, nx, lg, r, hle, e => by
    have ih := fun c ts h nx lg r => xC_mono T n m c ts h nx lg r (by omega)
    have hc : CMono (callN T n) (callN T m) := by
      intro f xs h nx lg r e
      unfold callN at e ⊢
      cases hT : T f with
      | none => rw [hT] at e; simp [A.fail] at e
      | some F =>
        rw [hT] at e
        exact bind_mono (fun r1 e1 => ih _ _ _ _ _ _ e1) (fun r1 r2 _ e2 => e2) e
    cases c with
    | skip => unfold xC at e ⊢; exact e
    | exit id => unfold xC at e ⊢; exact e
    | ret => unfold xC at e ⊢; exact e
    | reg rs dr bef =>
      unfold xC at e ⊢
      cases dr with
      | false => exact bind_mono (fun r1 e1 => regRun_mono hc e1) (fun r1 r2 _ e2 => e2) e
      | true => exact bind_mono (fun r1 e1 => regDraw_mono hc e1) (fun r1 r2 _ e2 => e2) e
    | seq a b =>
      unfold xC at e ⊢
      refine bind_mono (fun r1 e1 => ih _ _ _ _ _ _ e1) (fun r1 r2 _ e2 => ?_) e
      cases hx : r1.v.1 with
      | nor => rw [hx] at e2; exact ih _ _ _ _ _ _ e2
      | exit i => rw [hx] at e2; exact e2
      | ret => rw [hx] at e2; exact e2
    | cond q a b =>
      unfold xC at e ⊢
      generalize q.ev ts = v at e ⊢
      cases v <;> first | (simp [A.fail] at e; done) | skip
      rename_i b
      cases b <;> exact ih _ _ _ _ _ _ e
    | blk id c =>
      unfold xC at e ⊢
      exact bind_mono (fun r1 e1 => ih _ _ _ _ _ _ e1) (fun r1 r2 _ e2 => e2) e
    | loop c =>
      unfold xC at e ⊢
      refine bind_mono (fun r1 e1 => ih _ _ _ _ _ _ e1) (fun r1 r2 _ e2 => ?_) e
      cases hx : r1.v.1 with
      | nor => rw [hx] at e2; exact ih _ _ _ _ _ _ e2
      | exit i => rw [hx] at e2; exact e2
      | ret => rw [hx] at e2; exact e2

theorem xF_mono (T : FuncId → Option AF) {n m : Nat} (hle : n ≤ m) {f : FuncId} {xs : List AV} {h : Mem} {nx lg : Nat} {r : Rs AV} (e : xF T n f xs h nx lg = some r) : xF T m f xs h nx lg = some r := by
  unfold xF at e ⊢
  cases hT : T f with
  | none => rw [hT] at e; simp [A.fail] at e
  | some F =>
    rw [hT] at e
    exact bind_mono (fun r1 e1 => xC_mono T n m _ _ _ _ _ _ hle e1) (fun r1 r2 _ e2 => e2) e

/-- A call inside code. -/
theorem callN_eq (T : FuncId → Option AF) (n : Nat) : (fun f args => match T f with
      | none => (A.fail : A AV)
      | some F => A.bind (xC T n F.body (args ++ List.replicate (F.nt - args.length) (.tup []))) fun r => match r.1 with
        | .exit _ => A.fail
        | _ => A.bind (resAll r.2 F.res) fun vs => A.ret (oneOf vs)) = xF T n := rfl
theorem xC_reg (T : FuncId → Option AF) (n : Nat) (rs : List AR) (bef : List Nat) (ts : List AV) : xC T (n + 1) (.reg rs false bef) ts = A.bind (regRun (xF T n) rs ts) fun ts => A.ret (.nor, ts) := rfl
theorem xC_draw (T : FuncId → Option AF) (n : Nat) (rs : List AR) (bef : List Nat) (ts : List AV) : xC T (n + 1) (.reg rs true bef) ts = A.bind (regDraw (xF T n) rs bef ts) fun ts => A.ret (.nor, ts) := rfl

theorem xC_skip (T : FuncId → Option AF) (n : Nat) (ts : List AV) : xC T (n + 1) .skip ts = A.ret (.nor, ts) := rfl
theorem xC_exit (T : FuncId → Option AF) (n id : Nat) (ts : List AV) : xC T (n + 1) (.exit id) ts = A.ret (.exit id, ts) := rfl
theorem xC_ret (T : FuncId → Option AF) (n : Nat) (ts : List AV) : xC T (n + 1) .ret ts = A.ret (.ret, ts) := rfl
theorem xC_seq (T : FuncId → Option AF) (n : Nat) (a b : AC) (ts : List AV) : xC T (n + 1) (.seq a b) ts = A.bind (xC T n a ts) fun r => match r.1 with
    | .nor => xC T n b r.2
    | _ => A.ret r := rfl
theorem xC_cond (T : FuncId → Option AF) (n : Nat) (c : X) (a b : AC) (ts : List AV) : xC T (n + 1) (.cond c a b) ts = match c.ev ts with
    | .bool true => xC T n a ts
    | .bool false => xC T n b ts
    | _ => A.fail := rfl
theorem xC_blk (T : FuncId → Option AF) (n id : Nat) (c : AC) (ts : List AV) : xC T (n + 1) (.blk id c) ts = A.bind (xC T n c ts) fun r => match r.1 with
    | .exit i => match Nat.beq i id with
      | true => A.ret (.nor, r.2)
      | false => A.ret r
    | _ => A.ret r := rfl
theorem xC_loop (T : FuncId → Option AF) (n : Nat) (c : AC) (ts : List AV) : xC T (n + 1) (.loop c) ts = A.bind (xC T n c ts) fun r => match r.1 with
    | .nor => xC T n (.loop c) r.2
    | _ => A.ret r := rfl

theorem xF_of {T : FuncId → Option AF} {f : FuncId} {F : AF} (hF : T f = some F) (n : Nat) (args : List AV) : xF T n f args = A.bind (xC T n F.body (args ++ List.replicate (F.nt - args.length) (.tup []))) fun r => match r.1 with
    | .exit _ => A.fail
    | _ => A.bind (resAll r.2 F.res) fun vs => A.ret (oneOf vs) := by
  funext h nx lg
  unfold xF; simp only [hF]
  rfl

theorem Tr.put_put {α : Type} : ∀ (f : Nat) (t : Tr α) (k : Nat) (x y : Option α), Tr.put f (Tr.put f t k x) k y = Tr.put f t k y
  | 0, t, k, x, y => rfl
  | f + 1, t, k, x, y => by
    have ih := @Tr.put_put α f
    cases t with
    | lf =>
      cases h0 : Nat.beq k 0 with
      | true => simp [Tr.put, h0]
      | false =>
        cases h1 : Nat.beq (k % 2) 1 with
        | true => simp [Tr.put, h0, h1, ih]
        | false => simp [Tr.put, h0, h1, ih]
    | nd l v r =>
      cases h0 : Nat.beq k 0 with
      | true => simp [Tr.put, h0]
      | false =>
        cases h1 : Nat.beq (k % 2) 1 with
        | true => simp [Tr.put, h0, h1, ih]
        | false => simp [Tr.put, h0, h1, ih]
theorem Mem.set_set (h : Mem) (b : Nat) (k k' : Option Blk) : (h.set b k).set b k' = h.set b k' := Tr.put_put _ h b k k'

end Go.Proofs.YtamfoplfbidolaaGreatDoorE

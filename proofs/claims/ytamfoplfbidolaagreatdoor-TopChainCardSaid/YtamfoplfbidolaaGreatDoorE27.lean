/- The engine, part 27: cells that are written; a call that acts on one block. -/
import Derived.Test.YtamfoplfbidolaaGreatDoorE26
namespace Go.Proofs.YtamfoplfbidolaaGreatDoorE
open Go Go.RowKit
set_option linter.unusedVariables false
set_option linter.unusedSimpArgs false

theorem lay_one {α : Type} (cs : List α) (o : Nat) (x : α) (h : o < cs.length) : lay cs o [x] = cs.set o x := by
  unfold lay
  rw [List.set_eq_take_append_cons_drop, if_pos h]
  simp
theorem lay_app {α : Type} (a b : List α) (o : Nat) (xs : List α) (h : o + xs.length ≤ a.length) : lay (a ++ b) o xs = lay a o xs ++ b := by
  unfold lay
  rw [List.take_append_of_le_length (by omega), List.drop_append_of_le_length (by omega)]
  simp
theorem lay_skip {α : Type} (a b : List α) (o : Nat) (xs : List α) (n : Nat) (e : n = a.length) : lay (a ++ b) (n + o) xs = a ++ lay b o xs := by
  subst e
  unfold lay
  rw [List.take_length_add_append, Nat.add_assoc, List.drop_length_add_append]
  simp
theorem lay_flat {α : Type} {sz : Nat} : ∀ {l : List (List α)}, (∀ x ∈ l, x.length = sz) → ∀ {i : Nat} (hi : i < l.length) (x : List α), x.length = sz → lay l.flatten (i * sz) x = (l.set i x).flatten
  | [], _, i, hi, _, _ => absurd hi (Nat.not_lt_zero _)
  | z :: zs, h, 0, hi, x, hx => by
    have hz := h z (by simp)
    rw [Nat.zero_mul, List.flatten_cons, lay_app _ _ _ _ (by omega)]
    unfold lay
    simp [hz, hx]
  | z :: zs, h, i + 1, hi, x, hx => by
    have hz := h z (by simp)
    rw [List.flatten_cons, Nat.succ_mul, Nat.add_comm, lay_skip _ _ _ _ _ hz.symm, lay_flat (fun y hy => h y (by simp [hy])) (by simpa using hi) x hx]
    rfl
/-! A congruence for Post that does not look behind the run, even where the run is stuck. -/
def dumA : Nat := 0
def dumB : Nat := 0
theorem dum_ab : dumA = dumB := Eq.trans rfl rfl
theorem Post_cg {α : Type} {o o' : Option (Rs α)} {Q : α → Mem → Nat → Nat → Nat → Prop} {x : Nat} (d : dumA = x) (e : o = o') : Post o Q = Post o' Q := by rw [e]
theorem PostL_cg {o o' : Option (Rs (List AV) × List (Nat × Nat))} {Q : List AV → Mem → Nat → Nat → Nat → List (Nat × Nat) → Prop} {x : Nat} (d : dumA = x) (e : o = o') : PostL o Q = PostL o' Q := by rw [e]
/-- A choice whose arms are not looked at ahead of it. -/
def condP (v : AV) (p q : Prop) : Prop := match v with
  | .bool true => p
  | .bool false => q
  | _ => False
theorem condP_cg {v v' : AV} {p q : Prop} {x : Nat} (d : dumA = x) (e : v = v') : condP v p q = condP v' p q := by rw [e]
theorem condP_t (p q : Prop) : condP (.bool true) p q = p := Eq.trans rfl rfl
theorem condP_f (p q : Prop) : condP (.bool false) p q = q := Eq.trans rfl rfl
section
variable {T : FuncId → Option AF} {n : Nat} {ts : List AV} {h : Mem} {nx lg : Nat} {Q : Ex × List AV → Mem → Nat → Nat → Nat → Prop}
theorem P_seq (a b : AC) : Post (xC T (n + 1) (.seq a b) ts h nx lg) Q = Post (xC T n a ts h nx lg) fun r h' n' tc wr => Post ((match r.1 with | .nor => xC T n b r.2 | _ => A.ret r) h' n' lg) fun v2 h2 n2 tc2 wr2 => Q v2 h2 n2 (tc ||| tc2) (wr ||| wr2) := by
  rw [yC_seq, Post_bind]; rfl
theorem P_blk (id : Nat) (c : AC) : Post (xC T (n + 1) (.blk id c) ts h nx lg) Q = Post (xC T n c ts h nx lg) fun r h' n' tc wr => Post ((match r.1 with | .exit i => (match Nat.beq i id with | true => A.ret (Ex.nor, r.2) | false => A.ret r) | _ => A.ret r) h' n' lg) fun v2 h2 n2 tc2 wr2 => Q v2 h2 n2 (tc ||| tc2) (wr ||| wr2) := by
  rw [yC_blk, Post_bind]; rfl
theorem P_cond (c : X) (a b : AC) : Post (xC T (n + 1) (.cond c a b) ts h nx lg) Q = condP (c.ev ts) (Post (xC T n a ts h nx lg) Q) (Post (xC T n b ts h nx lg) Q) := by
  rw [yC_cond]
  unfold condP
  split <;> simp only [*, Post_fail]
theorem P_reg (rs : List AR) (bef : List Nat) : Post (xC T (n + 1) (.reg rs false bef) ts h nx lg) Q = Post (regRun (xF T n) rs ts h nx lg) fun ts' h' n' tc wr => Q (Ex.nor, ts') h' n' tc wr := by
  rw [yC_reg, Post_bind]; simp only [Post_ret, Nat.or_zero]
theorem P_draw (rs : List AR) (bef : List Nat) : Post (xC T (n + 1) (.reg rs true bef) ts h nx lg) Q = Post (regDraw (xF T n) rs bef ts h nx lg) fun ts' h' n' tc wr => Q (Ex.nor, ts') h' n' tc wr := by
  rw [yC_draw, Post_bind]; simp only [Post_ret, Nat.or_zero]
theorem P_skip : Post (xC T (n + 1) .skip ts h nx lg) Q = Q (Ex.nor, ts) h nx 0 0 := by rw [yC_skip, Post_ret]
theorem P_exit (id : Nat) : Post (xC T (n + 1) (.exit id) ts h nx lg) Q = Q (Ex.exit id, ts) h nx 0 0 := by rw [yC_exit, Post_ret]
theorem P_ret : Post (xC T (n + 1) .ret ts h nx lg) Q = Q (Ex.ret, ts) h nx 0 0 := by rw [yC_ret, Post_ret]
theorem P_loop (c : AC) : Post (xC T (n + 1) (.loop c) ts h nx lg) Q = Post (xC T n c ts h nx lg) fun r h' n' tc wr => Post ((match r.1 with | .nor => xC T n (.loop c) r.2 | _ => A.ret r) h' n' lg) fun v2 h2 n2 tc2 wr2 => Q v2 h2 n2 (tc ||| tc2) (wr ||| wr2) := by
  rw [yC_loop, Post_bind]; rfl
end
theorem P_nil (c : FuncId → List AV → A AV) (ts : List AV) (h : Mem) (nx lg : Nat) (Q : List AV → Mem → Nat → Nat → Nat → Prop) : Post (regRun c [] ts h nx lg) Q = Q ts h nx 0 0 := by rw [reg_nil, Post_ret]
theorem P_cons (c : FuncId → List AV → A AV) (r : AR) (rs : List AR) (ts : List AV) (h : Mem) (nx lg : Nat) (Q : List AV → Mem → Nat → Nat → Nat → Prop) : Post (regRun c (r :: rs) ts h nx lg) Q = Post (stepR c ts r h nx lg) fun v h' n' tc wr => Post (regRun c rs (putT ts r.dst v) h' n' lg) fun v2 h2 n2 tc2 wr2 => Q v2 h2 n2 (tc ||| tc2) (wr ||| wr2) := by
  rw [reg_cons, Post_bind]
theorem ble_dec (a b : Nat) : Nat.ble a b = decide (a ≤ b) := by
  by_cases h : a ≤ b
  · rw [Nat.ble_eq_true_of_le h, decide_eq_true h]
  · rw [decide_eq_false h]
    cases hc : Nat.ble a b with
    | false => rfl
    | true => exact absurd (Nat.le_of_ble_eq_true hc) h
theorem and_pow {p q : Nat} (h : p ≠ q) : 2 ^ p &&& 2 ^ q = 0 := by
  apply Nat.eq_of_testBit_eq
  intro i
  rw [Nat.testBit_and, Nat.testBit_two_pow, Nat.testBit_two_pow, Nat.zero_testBit]
  by_cases a : p = i
  · subst a; simp [Ne.symm h]
  · simp [a]
theorem new_one (n : Nat) : 2 ^ (n + 1) - 2 ^ n = 2 ^ n := by rw [Nat.pow_succ]; omega
theorem bit_up {lg n : Nat} (h : lg ≤ n) : bit lg n = 0 := by
  unfold bit
  cases hc : Nat.blt n lg with
  | false => rfl
  | true => have := Nat.le_of_ble_eq_true hc; omega
theorem bit_upk {lg n : Nat} (k : Nat) (h : lg ≤ n) : bit lg (n + k) = 0 := bit_up (by omega)

/-- One element more, watched or not. -/
theorem app_any {sz : Nat} (hsz : 0 < sz) {s : AV} {h : Mem} {lo nx : Nat} (lg : Nat) {l : List (List AV)} (ty bytes : Nat) (x : List AV) (g : SGRow sz s h lo nx l) (hlo : lo ≤ nx) (hf : fits (l.length + 1) bytes = true) (hx : x.all AV.one = true) (hxl : x.length = sz) :
    Post (appA ty sz bytes 1 s x h nx lg) fun s' h' nx' tc wr => nx' = nx + 1 ∧ SGRow sz s' h' lo (nx + 1) (l ++ [x]) ∧ (∀ b, b < lo → h'.blk b = h.blk b) := by
  rcases g with ⟨rfl, rfl⟩ | ⟨hs, b, t, h1, h2, rfl, h4⟩
  · have e : appA ty sz bytes 1 .nils x h nx lg = some ⟨.slc nx 0 1 none, h.set nx (some ⟨ty, sz, true, true, x⟩), nx + 1, 0, 0⟩ := by
      have hf' : fits 1 bytes = true := hf
      unfold appA
      simp [hf', A.bind, newBlk, A.ret, Nat.beq]
    exact Post.of e ⟨rfl, .inr ⟨by simpa using hxl, nx, ty, hlo, by omega, rfl, by simpa using Mem.blk_set_same ..⟩, fun b hb => Mem.blk_set_ne _ _ _ _ (by omega)⟩
  · have hb1 : Nat.blt b nx = true := blt_of h2
    have hfl := flat_len hs
    have hble : Nat.ble (0 + (l.length + 1) * sz) l.flatten.length = false := by
      cases hc : Nat.ble (0 + (l.length + 1) * sz) l.flatten.length with
      | false => rfl
      | true => have := Nat.le_of_ble_eq_true hc; rw [hfl, Nat.succ_mul] at this; omega
    have e : appA ty sz bytes 1 (.slc b 0 l.length none) x h nx lg = some ⟨.slc nx 0 (l.length + 1) none, (h.set b none).set nx (some ⟨t, sz, true, true, l.flatten ++ x⟩), nx + 1, bit lg b ||| bit lg b, bit lg b⟩ := by
      have hsub := sub_all l.flatten (l.length * sz) (by omega)
      have hn1 : Nat.beq 1 0 = false := rfl
      unfold appA
      simp only [hn1, A.bind, rdBlk, hb1, h4, Nat.beq_refl, Bool.true_and, hx, hble, hf, hsub, A.ofOpt, A.ret, movBlk]
      simp
    refine Post.of e ⟨rfl, .inr ⟨?_, nx, t, by omega, by omega, by rw [List.length_append]; rfl, ?_⟩, fun c hc => by rw [Mem.blk_set_ne _ _ _ _ (by omega), Mem.blk_set_ne _ _ _ _ (by omega)]⟩
    · intro y hy
      rcases List.mem_append.1 hy with hy | hy
      · exact hs y hy
      · rw [List.mem_singleton.1 hy]; exact hxl
    · rw [Mem.blk_set_same]; simp
theorem sub_inv {α : Type} {cs xs : List α} {o n : Nat} (h : sub cs o n = some xs) : o + n ≤ cs.length ∧ (cs.drop o).take n = xs := by
  unfold sub at h
  cases hb : Nat.ble (o + n) cs.length with
  | true => rw [hb] at h; exact ⟨Nat.le_of_ble_eq_true hb, Option.some.inj h⟩
  | false => rw [hb] at h; cases h
theorem get_of {α : Type} {l : List α} {i : Nat} {v : α} (e : l[i]? = some v) (h : i < l.length) : l[i]'h = v := by
  rw [List.getElem?_eq_getElem h] at e; exact Option.some.inj e
theorem lay_all {α : Type} (cs xs : List α) (h : xs.length = cs.length) : lay cs 0 xs = xs := by
  unfold lay
  rw [Nat.zero_add, List.drop_of_length_le (by omega)]
  simp
theorem Fr.all {nx p : Nat} {h h' : Mem} (f : ∀ b, b < nx → b ≠ p → h'.blk b = h.blk b) (e : h'.blk p = h.blk p) (b : Nat) (hb : b < nx) : h'.blk b = h.blk b := by
  by_cases c : b = p
  · rw [c, e]
  · exact f b hb c
/-- It answers so, in a run that is not watched; what was there stays. -/
def Ans (T : FuncId → Option AF) (n f : Nat) (args : List AV) (h : Mem) (nx : Nat) (a : AV) : Prop := Post (xF T n f args h nx 0) fun v h' nx' _ _ => v = a ∧ nx ≤ nx' ∧ Keeps nx h h'
theorem Ans.at {T : FuncId → Option AF} {n f : Nat} {args : List AV} {h : Mem} {nx : Nat} {a : AV} (s : Ans T n f args h nx a) : ∃ h' nx' tc wr, (∀ k, xF T (k + n) f args h nx 0 = some ⟨a, h', nx', tc, wr⟩) ∧ nx ≤ nx' ∧ Keeps nx h h' := by
  obtain ⟨v, h', nx', tc, wr, e, rfl, e2, e3⟩ := s.inv
  exact ⟨h', nx', tc, wr, fun k => xF_mono T (Nat.le_add_left ..) e, e2, e3⟩
/-- The blocks below stay, but one. -/
def Fr (nx p : Nat) (h h' : Mem) : Prop := ∀ b, b < nx → b ≠ p → h'.blk b = h.blk b
theorem fr_refl (nx p : Nat) (h : Mem) : Fr nx p h h = True := eq_true fun b _ _ => rfl
theorem fr_set (nx p q : Nat) (h h' : Mem) (K : Option Blk) (e : nx ≤ q ∨ q = p) : Fr nx p h (h'.set q K) = Fr nx p h h' := by
  unfold Fr
  refine propext ⟨fun g b hb hp => ?_, fun g b hb hp => ?_⟩
  · rw [← g b hb hp, Mem.blk_set_ne _ _ _ _ (by omega)]
  · rw [← g b hb hp, Mem.blk_set_ne _ _ _ _ (by omega)]
theorem fr_at (nx p : Nat) (h h' : Mem) (K : Option Blk) : Fr nx p h (h'.set nx K) = Fr nx p h h' := fr_set _ _ _ _ _ _ (.inl (Nat.le_refl _))
theorem fr_up (nx p k : Nat) (h h' : Mem) (K : Option Blk) : Fr nx p h (h'.set (nx + k) K) = Fr nx p h h' := fr_set _ _ _ _ _ _ (.inl (Nat.le_add_right ..))
theorem fr_p (nx p : Nat) (h h' : Mem) (K : Option Blk) : Fr nx p h (h'.set p K) = Fr nx p h h' := fr_set _ _ _ _ _ _ (.inr rfl)
/-- What a call that works on one block comes to; the other blocks that were there stay. -/
def Acts (T : FuncId → Option AF) (n f : Nat) (args : List AV) (h : Mem) (nx p : Nat) (v : AV) (K : Blk) (w : Bool) : Prop := ∀ lg, lg ≤ nx →
  Post (xF T n f args h nx lg) fun v' h' nx' tc wr => v' = v ∧ nx ≤ nx' ∧ h'.blk p = some K ∧ Fr nx p h h' ∧ tc = bit lg p ∧ wr = cond w (bit lg p) 0
theorem Acts.at {T : FuncId → Option AF} {n f : Nat} {args : List AV} {h : Mem} {nx p : Nat} {v : AV} {K : Blk} {w : Bool} (s : Acts T n f args h nx p v K w) (lg : Nat) (hl : lg ≤ nx) :
    ∃ h' nx', (∀ k, xF T (k + n) f args h nx lg = some ⟨v, h', nx', bit lg p, cond w (bit lg p) 0⟩) ∧ nx ≤ nx' ∧ h'.blk p = some K ∧ Fr nx p h h' := by
  obtain ⟨v, h', nx', tc, wr, e, rfl, e2, e3, e4, rfl, rfl⟩ := (s lg hl).inv
  exact ⟨h', nx', fun k => xF_mono T (Nat.le_add_left ..) e, e2, e3, e4⟩

end Go.Proofs.YtamfoplfbidolaaGreatDoorE

/- Ring: rows that grow by many, From, New. -/
import Derived.Test.YtmgilbjhgpcjgaaRIn
namespace Go.Proofs.YtmgilbjhgpcjgaaT
open Go Go.Proofs.YtmgilbjhgpcjgaaE Go.Proofs.YtmgilbjhgpcjgaaB
set_option linter.unusedSimpArgs false
set_option linter.unusedVariables false
attribute [local congr] Post_cg PostL_cg condP_cg

/-- A row of numbers that the call has made, by literals and append. -/
def GL (s : AV) (h : Mem) (lo nx : Nat) (l : List Int) : Prop :=
  (s = .nils ∧ l = []) ∨ (∃ b K, s = .slc b 0 l.length (some l.length) ∧ lo ≤ b ∧ b < nx ∧ h.blk b = some K ∧ K.cells = ints l) ∨ ∃ b ty, lo ≤ b ∧ b < nx ∧ s = .slc b 0 l.length none ∧ h.blk b = some ⟨ty, 1, true, true, ints l⟩
theorem GL.keep {s : AV} {h h' : Mem} {lo nx nx' : Nat} {l : List Int} (g : GL s h lo nx l) (hn : nx ≤ nx') (e : ∀ b, lo ≤ b → b < nx → h'.blk b = h.blk b) : GL s h' lo nx' l := by
  rcases g with g | ⟨b, K, h3, h1, h2, h4, h5⟩ | ⟨b, ty, h1, h2, h3, h4⟩
  · exact .inl g
  · exact .inr (.inl ⟨b, K, h3, h1, by omega, by rw [e b h1 h2]; exact h4, h5⟩)
  · exact .inr (.inr ⟨b, ty, h1, by omega, h3, by rw [e b h1 h2]; exact h4⟩)
theorem GL.low {s : AV} {h : Mem} {lo lo' nx : Nat} {l : List Int} (g : GL s h lo nx l) (hn : lo' ≤ lo) : GL s h lo' nx l := by
  rcases g with g | ⟨b, K, h3, h1, h2, h4, h5⟩ | ⟨b, ty, h1, h2, h3, h4⟩
  · exact .inl g
  · exact .inr (.inl ⟨b, K, h3, by omega, h2, h4, h5⟩)
  · exact .inr (.inr ⟨b, ty, by omega, h2, h3, h4⟩)
theorem GL.irow {s : AV} {h : Mem} {lo nx : Nat} {l : List Int} (g : GL s h lo nx l) : IRow .i64 s h nx l := by
  rcases g with ⟨rfl, rfl⟩ | ⟨b, K, rfl, h1, h2, h4, h5⟩ | ⟨b, ty, h1, h2, rfl, h4⟩
  · exact .inl ⟨rfl, rfl⟩
  · exact .inr ⟨b, _, rfl, fun _ => ⟨h2, _, h4, fun i hi => by rw [h5]; exact ints_at hi⟩⟩
  · exact .inr ⟨b, none, rfl, fun _ => ⟨h2, _, h4, fun i hi => ints_at hi⟩⟩
theorem GL.lit {h : Mem} {lo nx b ty : Nat} {l : List Int} (hb : lo ≤ b) (hn : b < nx) (e : h.blk b = some ⟨ty, 1, true, false, ints l⟩) : GL (.slc b 0 l.length (some l.length)) h lo nx l := .inr (.inl ⟨b, _, rfl, hb, hn, e, rfl⟩)
theorem GL.form {s : AV} {h : Mem} {lo nx : Nat} {l : List Int} (g : GL s h lo nx l) : s = .nils ∨ ∃ b o n c, s = .slc b o n c := by
  rcases g with ⟨rfl, rfl⟩ | ⟨b, K, rfl, h1, h2, h4, h5⟩ | ⟨b, ty, h1, h2, rfl, h4⟩
  · exact .inl rfl
  · exact .inr ⟨_, _, _, _, rfl⟩
  · exact .inr ⟨_, _, _, _, rfl⟩
/-- Several more. -/
theorem app_all {s : AV} {h : Mem} {lo nx lg : Nat} {l m : List Int} (ty : Nat) (g : GL s h lo nx l) (hlg : lg ≤ lo) (hlo : lo ≤ nx) (hf : l.length + m.length ≤ 1000000) :
    Post (appA ty 1 8 m.length s (ints m) h nx lg) fun s' h' nx' tc wr => nx ≤ nx' ∧ GL s' h' lo nx' (l ++ m) ∧ (∀ b, b < lo → h'.blk b = h.blk b) ∧ tc = 0 ∧ wr = 0 := by
  have hb : ∀ b, lo ≤ b → bit lg b = 0 := fun b hb => bit_up (by omega)
  have ff : ∀ k, k ≤ 1000000 → fits k 8 = true := by
    intro k hk
    unfold fits
    simp
    omega
  cases m with
  | nil =>
    have hn : Nat.beq ([] : List Int).length 0 = true := rfl
    rw [List.append_nil]
    rcases g with ⟨rfl, rfl⟩ | ⟨b, K, rfl, h1, h2, h4, h5⟩ | ⟨b, t, h1, h2, rfl, h4⟩
    · have e : appA ty 1 8 ([] : List Int).length .nils (ints []) h nx lg = some ⟨.nils, h, nx, 0, 0⟩ := by unfold appA; rw [hn]; rfl
      exact Post.of e ⟨Nat.le_refl _, .inl ⟨rfl, rfl⟩, fun _ _ => rfl, rfl, rfl⟩
    · have e : appA ty 1 8 ([] : List Int).length (.slc b 0 l.length (some l.length)) (ints []) h nx lg = some ⟨.slc b 0 l.length (some l.length), h, nx, 0, 0⟩ := by unfold appA; rw [hn]; rfl
      exact Post.of e ⟨Nat.le_refl _, .inr (.inl ⟨b, K, rfl, h1, h2, h4, h5⟩), fun _ _ => rfl, rfl, rfl⟩
    · have e : appA ty 1 8 ([] : List Int).length (.slc b 0 l.length none) (ints []) h nx lg = some ⟨.slc b 0 l.length none, h, nx, 0, 0⟩ := by unfold appA; rw [hn]; rfl
      exact Post.of e ⟨Nat.le_refl _, .inr (.inr ⟨b, t, h1, h2, rfl, h4⟩), fun _ _ => rfl, rfl, rfl⟩
  | cons x m =>
    generalize hm : x :: m = M at *
    have hM : 0 < M.length := by rw [← hm]; exact Nat.zero_lt_succ _
    have hn : Nat.beq M.length 0 = false := by cases c : Nat.beq M.length 0 with | false => rfl | true => have := Nat.eq_of_beq_eq_true c; omega
    have hone := ints_one M
    have hl := ints_len l
    rcases g with ⟨rfl, rfl⟩ | ⟨b, K, rfl, h1, h2, h4, h5⟩ | ⟨b, t, h1, h2, rfl, h4⟩
    · have e : appA ty 1 8 M.length .nils (ints M) h nx lg = some ⟨.slc nx 0 M.length none, h.set nx (some ⟨ty, 1, true, true, ints M⟩), nx + 1, 0, 0⟩ := by
        unfold appA
        simp only [hn, ff _ (show M.length ≤ 1000000 by simpa using hf), A.bind, newBlk, A.ret]
        rfl
      exact Post.of e ⟨by omega, .inr (.inr ⟨nx, ty, hlo, by omega, rfl, Mem.blk_set_same ..⟩), fun b hb => Mem.blk_set_ne _ _ _ _ (by omega), rfl, rfl⟩
    · have hble : Nat.ble (l.length + M.length) l.length = false := by
        cases hc : Nat.ble (l.length + M.length) l.length with
        | false => rfl
        | true => have := Nat.le_of_ble_eq_true hc; omega
      have e : appA ty 1 8 M.length (.slc b 0 l.length (some l.length)) (ints M) h nx lg = some ⟨.slc nx 0 (l.length + M.length) none, h.set nx (some ⟨ty, 1, true, true, ints l ++ ints M⟩), nx + 1, 0, 0⟩ := by
        have hsub := sub_all (ints l) (l.length * 1) (by omega)
        unfold appA
        simp only [hn, hble, ff _ hf, A.bind, rdBlk, blt_of h2, h4, h5, hsub, A.ofOpt, newBlk, A.ret, hb b h1]
        rfl
      exact Post.of e ⟨by omega, .inr (.inr ⟨nx, ty, hlo, by omega, by rw [List.length_append], by rw [ints_app]; exact Mem.blk_set_same ..⟩), fun b hb => Mem.blk_set_ne _ _ _ _ (by omega), rfl, rfl⟩
    · have hble : Nat.ble (0 + (l.length + M.length) * 1) (ints l).length = false := by
        cases hc : Nat.ble (0 + (l.length + M.length) * 1) (ints l).length with
        | false => rfl
        | true => have := Nat.le_of_ble_eq_true hc; omega
      have e : appA ty 1 8 M.length (.slc b 0 l.length none) (ints M) h nx lg = some ⟨.slc nx 0 (l.length + M.length) none, (h.set b none).set nx (some ⟨t, 1, true, true, ints l ++ ints M⟩), nx + 1, 0, 0⟩ := by
        have hsub := sub_all (ints l) (l.length * 1) (by omega)
        unfold appA
        simp only [hn, A.bind, rdBlk, blt_of h2, h4, Nat.beq_refl, Bool.true_and, hone, hble, ff _ hf, hsub, A.ofOpt, A.ret, movBlk, hb b h1]
        rfl
      exact Post.of e ⟨by omega, .inr (.inr ⟨nx, t, by omega, by omega, by rw [List.length_append], by rw [ints_app]; exact Mem.blk_set_same ..⟩), fun c hc => by rw [Mem.blk_set_ne _ _ _ _ (by omega), Mem.blk_set_ne _ _ _ _ (by omega)], rfl, rfl⟩
/-- Marks of none below. -/
def Mi (lo m : Nat) : Prop := ∀ q, q < lo → m &&& 2 ^ q = 0
theorem Mi.z (lo : Nat) : Mi lo 0 := fun _ _ => Nat.zero_and _
theorem Mi.b {lo b : Nat} (lg : Nat) (h : lo ≤ b) : Mi lo (bit lg b) := by
  intro q hq
  unfold bit
  cases Nat.blt b lg
  · exact Nat.zero_and _
  · exact and_pow (by omega)
theorem Mi.or {lo a b : Nat} (h : Mi lo a) (g : Mi lo b) : Mi lo (a ||| b) := fun q hq => by rw [Nat.and_or_distrib_right, h q hq, g q hq]; rfl
/-- Several more, watched or not. -/
theorem app_gen {s : AV} {h : Mem} {lo nx lg : Nat} {l m : List Int} (ty : Nat) (g : GL s h lo nx l) (hlo : lo ≤ nx) (hf : l.length + m.length ≤ 1000000) :
    Post (appA ty 1 8 m.length s (ints m) h nx lg) fun s' h' nx' tc wr => nx ≤ nx' ∧ GL s' h' lo nx' (l ++ m) ∧ (∀ b, b < lo → h'.blk b = h.blk b) ∧ Mi lo tc ∧ Mi lo wr ∧ (lg ≤ lo → tc = 0 ∧ wr = 0) := by
  have ff : ∀ k, k ≤ 1000000 → fits k 8 = true := by
    intro k hk
    unfold fits
    simp
    omega
  cases m with
  | nil =>
    have hn : Nat.beq ([] : List Int).length 0 = true := rfl
    rw [List.append_nil]
    rcases g with ⟨rfl, rfl⟩ | ⟨b, K, rfl, h1, h2, h4, h5⟩ | ⟨b, t, h1, h2, rfl, h4⟩
    · have e : appA ty 1 8 ([] : List Int).length .nils (ints []) h nx lg = some ⟨.nils, h, nx, 0, 0⟩ := by unfold appA; rw [hn]; rfl
      exact Post.of e ⟨Nat.le_refl _, .inl ⟨rfl, rfl⟩, fun _ _ => rfl, Mi.z _, Mi.z _, fun _ => ⟨rfl, rfl⟩⟩
    · have e : appA ty 1 8 ([] : List Int).length (.slc b 0 l.length (some l.length)) (ints []) h nx lg = some ⟨.slc b 0 l.length (some l.length), h, nx, 0, 0⟩ := by unfold appA; rw [hn]; rfl
      exact Post.of e ⟨Nat.le_refl _, .inr (.inl ⟨b, K, rfl, h1, h2, h4, h5⟩), fun _ _ => rfl, Mi.z _, Mi.z _, fun _ => ⟨rfl, rfl⟩⟩
    · have e : appA ty 1 8 ([] : List Int).length (.slc b 0 l.length none) (ints []) h nx lg = some ⟨.slc b 0 l.length none, h, nx, 0, 0⟩ := by unfold appA; rw [hn]; rfl
      exact Post.of e ⟨Nat.le_refl _, .inr (.inr ⟨b, t, h1, h2, rfl, h4⟩), fun _ _ => rfl, Mi.z _, Mi.z _, fun _ => ⟨rfl, rfl⟩⟩
  | cons x m =>
    generalize hm : x :: m = M at *
    have hM : 0 < M.length := by rw [← hm]; exact Nat.zero_lt_succ _
    have hn : Nat.beq M.length 0 = false := by cases c : Nat.beq M.length 0 with | false => rfl | true => have := Nat.eq_of_beq_eq_true c; omega
    have hone := ints_one M
    have hl := ints_len l
    rcases g with ⟨rfl, rfl⟩ | ⟨b, K, rfl, h1, h2, h4, h5⟩ | ⟨b, t, h1, h2, rfl, h4⟩
    · have e : appA ty 1 8 M.length .nils (ints M) h nx lg = some ⟨.slc nx 0 M.length none, h.set nx (some ⟨ty, 1, true, true, ints M⟩), nx + 1, 0, 0⟩ := by
        unfold appA
        simp only [hn, ff _ (show M.length ≤ 1000000 by simpa using hf), A.bind, newBlk, A.ret]
        rfl
      exact Post.of e ⟨by omega, .inr (.inr ⟨nx, ty, hlo, by omega, rfl, Mem.blk_set_same ..⟩), fun b hb => Mem.blk_set_ne _ _ _ _ (by omega), Mi.z _, Mi.z _, fun _ => ⟨rfl, rfl⟩⟩
    · have hble : Nat.ble (l.length + M.length) l.length = false := by
        cases hc : Nat.ble (l.length + M.length) l.length with
        | false => rfl
        | true => have := Nat.le_of_ble_eq_true hc; omega
      have e : appA ty 1 8 M.length (.slc b 0 l.length (some l.length)) (ints M) h nx lg = some ⟨.slc nx 0 (l.length + M.length) none, h.set nx (some ⟨ty, 1, true, true, ints l ++ ints M⟩), nx + 1, bit lg b, 0⟩ := by
        have hsub := sub_all (ints l) (l.length * 1) (by omega)
        unfold appA
        simp only [hn, hble, ff _ hf, A.bind, rdBlk, blt_of h2, h4, h5, hsub, A.ofOpt, newBlk, A.ret, Nat.or_zero, Nat.zero_or, Nat.or_self]
      exact Post.of e ⟨by omega, .inr (.inr ⟨nx, ty, hlo, by omega, by rw [List.length_append], by rw [ints_app]; exact Mem.blk_set_same ..⟩), fun b hb => Mem.blk_set_ne _ _ _ _ (by omega), Mi.b lg h1, Mi.z _, fun e => ⟨bit_up (by omega), rfl⟩⟩
    · have hble : Nat.ble (0 + (l.length + M.length) * 1) (ints l).length = false := by
        cases hc : Nat.ble (0 + (l.length + M.length) * 1) (ints l).length with
        | false => rfl
        | true => have := Nat.le_of_ble_eq_true hc; omega
      have e : appA ty 1 8 M.length (.slc b 0 l.length none) (ints M) h nx lg = some ⟨.slc nx 0 (l.length + M.length) none, (h.set b none).set nx (some ⟨t, 1, true, true, ints l ++ ints M⟩), nx + 1, bit lg b, bit lg b⟩ := by
        have hsub := sub_all (ints l) (l.length * 1) (by omega)
        unfold appA
        simp only [hn, A.bind, rdBlk, blt_of h2, h4, Nat.beq_refl, Bool.true_and, hone, hble, ff _ hf, hsub, A.ofOpt, A.ret, movBlk, Nat.or_zero, Nat.zero_or, Nat.or_self]
      exact Post.of e ⟨by omega, .inr (.inr ⟨nx, t, by omega, by omega, by rw [List.length_append], by rw [ints_app]; exact Mem.blk_set_same ..⟩), fun c hc => by rw [Mem.blk_set_ne _ _ _ _ (by omega), Mem.blk_set_ne _ _ _ _ (by omega)], Mi.b lg h1, Mi.b lg h1, fun e => ⟨bit_up (by omega), bit_up (by omega)⟩⟩
theorem new_and {n m p : Nat} (h : p < n) : (2 ^ m - 2 ^ n) &&& 2 ^ p = 0 := by
  by_cases c : m ≤ n
  · have := Nat.pow_le_pow_right (show 0 < 2 by omega) c
    rw [Nat.sub_eq_zero_of_le this, Nat.zero_and]
  · obtain ⟨k, rfl⟩ : ∃ k, m = n + k := ⟨m - n, by omega⟩
    rw [Nat.pow_add, show 2 ^ n * 2 ^ k - 2 ^ n = 2 ^ n * (2 ^ k - 1) by rw [Nat.mul_sub, Nat.mul_one]]
    apply Nat.eq_of_testBit_eq
    intro i
    rw [Nat.testBit_and, Nat.testBit_two_pow, Nat.zero_testBit, Nat.testBit_two_pow_mul]
    by_cases e : p = i
    · subst e; simp; intro hh; omega
    · simp [e]
theorem lb0 (m : Nat) : lowBits 0 m = 0 := by unfold lowBits; simp [Nat.mod_one]
/-- The marks of a call that makes blocks, and of blocks below. -/
theorem Mi.new {lo n m wr q : Nat} (h : Mi lo wr) (hq : q < lo) (hn : lo ≤ n) : (wr ||| 2 ^ m - 2 ^ n) &&& 2 ^ q = 0 := by rw [Nat.and_or_distrib_right, h q hq, new_and (by omega)]; rfl
end Go.Proofs.YtmgilbjhgpcjgaaT

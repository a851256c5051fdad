/- The engine, part 29: rows as values: what is read, cut, appended; what a region of open order touches. -/
import Derived.Test.YtadenjdkknakgaaE27
namespace Go.Proofs.YtadenjdkknakgaaE
open Go Go.RowKit
set_option linter.unusedVariables false
set_option linter.unusedSimpArgs false

/-! ### Operations whose operands are values -/
def sliceA (sz : Nat) (v : AV) (lo hi mx : Option AV) : A AV := match v with
    | .nils => match bnd 0 0 mx with
      | some m => match bnd 0 m hi with
        | some h => match bnd 0 h lo with
          | some _ => A.ret .nils
          | none => A.fail
        | none => A.fail
      | none => A.fail
    | .slc b o n (some c) => match bnd c c mx with
      | some m => match bnd n m hi with
        | some h => match bnd 0 h lo with
          | some l => A.ret (.slc b (o + l * sz) (h - l) (some (m - l)))
          | none => A.fail
        | none => A.fail
      | none => A.fail
    | .slc b o n none => A.bind (rdBlk b) fun k => match k.grow && Nat.blt 0 sz && Nat.beq k.sz sz with
        | false => A.fail
        | true => match mx with
          | some x => match bnd 0 ((k.cells.length - o) / sz) (some x) with
            | some m => match bnd n m hi with
              | some h => match bnd 0 h lo with
                | some l => A.ret (.slc b (o + l * sz) (h - l) (some (m - l)))
                | none => A.fail
              | none => A.fail
            | none => A.fail
          | none => match bnd n ((k.cells.length - o) / sz) hi with
            | some h => match bnd 0 h lo with
              | some l => A.ret (.slc b (o + l * sz) (h - l) none)
              | none => A.fail
            | none => A.fail
    | _ => A.fail
theorem op_slice (c : FuncId → List AV → A AV) (ts : List AV) (sz : Nat) (x : X) (lo hi mx : Option X) : opRun c ts (.slice sz x lo hi mx) = sliceA sz (x.ev ts) (lo.map (·.ev ts)) (hi.map (·.ev ts)) (mx.map (·.ev ts)) := by
  simp only [opRun, sliceA]
  generalize x.ev ts = v
  cases v <;> first | rfl | skip
  rename_i b o n c
  cases c <;> first | rfl | skip
  cases mx <;> rfl
theorem step_none (c : FuncId → List AV → A AV) (ts : List AV) (d : Option Nat) (op : AOp) : stepR c ts ⟨d, none, op⟩ = opRun c ts op := Eq.trans rfl rfl
def appOp (ty sz bytes : Nat) (s x : AV) : A AV := match lenA x with
  | some n => A.bind (rdEls sz n x) fun xs => appA ty sz bytes n s xs
  | none => A.fail
theorem op_app (c : FuncId → List AV → A AV) (ts : List AV) (ty sz bytes : Nat) (s x : X) : opRun c ts (.app ty sz bytes s x) = appOp ty sz bytes (s.ev ts) (x.ev ts) := Eq.trans rfl rfl

/-! ### Rows -/
/-- A row that lies at the beginning of a block, n elements of sz cells; its block has nothing else. -/
def Row (sz n : Nat) (s : AV) (h : Mem) (lo nx : Nat) (cs : List AV) : Prop :=
  (s = .nils ∧ n = 0 ∧ cs = []) ∨ ∃ b K c, lo ≤ b ∧ b < nx ∧ s = .slc b 0 n c ∧ cs.length = n * sz ∧ h.blk b = some K ∧ K.cells = cs ∧ (c = some n ∨ (c = none ∧ K.grow = true ∧ K.sz = sz ∧ K.own = true))
/-- What is read as n elements. -/
def RV (sz n : Nat) (x : AV) (h : Mem) (lo nx : Nat) (m : List AV) : Prop :=
  (x = .nils ∧ n = 0 ∧ m = []) ∨ ∃ b o c K, lo ≤ b ∧ b < nx ∧ x = .slc b o n c ∧ h.blk b = some K ∧ sub K.cells o (n * sz) = some m
theorem Row.nil (sz : Nat) (h : Mem) (lo nx : Nat) : Row sz 0 .nils h lo nx [] := .inl ⟨rfl, rfl, rfl⟩
theorem Row.keep {sz n : Nat} {s : AV} {h h' : Mem} {lo nx nx' : Nat} {cs : List AV} (g : Row sz n s h lo nx cs) (hn : nx ≤ nx') (e : ∀ b, lo ≤ b → b < nx → h'.blk b = h.blk b) : Row sz n s h' lo nx' cs := by
  rcases g with g | ⟨b, K, c, h1, h2, h3, h4, h5, h6, h7⟩
  · exact .inl g
  · exact .inr ⟨b, K, c, h1, by omega, h3, h4, by rw [e b h1 h2]; exact h5, h6, h7⟩
theorem RV.keep {sz n : Nat} {s : AV} {h h' : Mem} {lo nx nx' : Nat} {cs : List AV} (g : RV sz n s h lo nx cs) (hn : nx ≤ nx') (e : ∀ b, lo ≤ b → b < nx → h'.blk b = h.blk b) : RV sz n s h' lo nx' cs := by
  rcases g with g | ⟨b, o, c, K, h1, h2, h3, h4, h5⟩
  · exact .inl g
  · exact .inr ⟨b, o, c, K, h1, by omega, h3, by rw [e b h1 h2]; exact h4, h5⟩
theorem Row.low {sz n : Nat} {s : AV} {h : Mem} {lo lo' nx : Nat} {cs : List AV} (g : Row sz n s h lo nx cs) (hl : lo' ≤ lo) : Row sz n s h lo' nx cs := by
  rcases g with g | ⟨b, K, c, h1, h2⟩
  · exact .inl g
  · exact .inr ⟨b, K, c, by omega, h2⟩
theorem RV.low {sz n : Nat} {s : AV} {h : Mem} {lo lo' nx : Nat} {cs : List AV} (g : RV sz n s h lo nx cs) (hl : lo' ≤ lo) : RV sz n s h lo' nx cs := by
  rcases g with g | ⟨b, K, c, o, h1, h2⟩
  · exact .inl g
  · exact .inr ⟨b, K, c, o, by omega, h2⟩
theorem Row.rv {sz n : Nat} {s : AV} {h : Mem} {lo nx : Nat} {cs : List AV} (g : Row sz n s h lo nx cs) : RV sz n s h lo nx cs := by
  rcases g with g | ⟨b, K, c, h1, h2, h3, h4, h5, h6, h7⟩
  · exact .inl g
  · exact .inr ⟨b, 0, c, K, h1, h2, h3, h5, by rw [h6]; exact sub_all cs (n * sz) h4.symm⟩
theorem RV.lenA {sz n : Nat} {x : AV} {h : Mem} {lo nx : Nat} {m : List AV} (g : RV sz n x h lo nx m) : lenA x = some n := by
  rcases g with ⟨rfl, rfl, _⟩ | ⟨b, o, c, K, h1, h2, rfl, h4, h5⟩ <;> rfl
theorem RV.lenOp {sz n : Nat} {x : AV} {h : Mem} {lo nx : Nat} {m : List AV} (g : RV sz n x h lo nx m) : lenOp x = A.ret (.int .i64 n) := by
  rcases g with ⟨rfl, rfl, _⟩ | ⟨b, o, c, K, h1, h2, rfl, h4, h5⟩ <;> rfl
theorem RV.size {sz n : Nat} {x : AV} {h : Mem} {lo nx : Nat} {m : List AV} (g : RV sz n x h lo nx m) : m.length = n * sz := by
  rcases g with ⟨rfl, rfl, rfl⟩ | ⟨b, o, c, K, h1, h2, rfl, h4, h5⟩
  · simp
  · obtain ⟨h6, rfl⟩ := sub_inv h5
    simp; omega
theorem Row.size {sz n : Nat} {s : AV} {h : Mem} {lo nx : Nat} {cs : List AV} (g : Row sz n s h lo nx cs) : cs.length = n * sz := g.rv.size
/-- The forms. -/
theorem RV.form {sz n : Nat} {x : AV} {h : Mem} {lo nx : Nat} {m : List AV} (g : RV sz n x h lo nx m) : (x = .nils ∧ n = 0) ∨ ∃ b o c, x = .slc b o n c := by
  rcases g with ⟨rfl, rfl, _⟩ | ⟨b, o, c, K, h1, h2, rfl, h4, h5⟩
  · exact .inl ⟨rfl, rfl⟩
  · exact .inr ⟨b, o, c, rfl⟩
theorem Row.form {sz n : Nat} {x : AV} {h : Mem} {lo nx : Nat} {m : List AV} (g : Row sz n x h lo nx m) : (x = .nils ∧ n = 0) ∨ ∃ b c, x = .slc b 0 n c := by
  rcases g with ⟨rfl, rfl, _⟩ | ⟨b, K, c, h1, h2, rfl, _⟩
  · exact .inl ⟨rfl, rfl⟩
  · exact .inr ⟨b, c, rfl⟩
/-- A literal. -/
theorem Row.lit {sz n : Nat} {h : Mem} {b lo nx ty szk : Nat} {o g : Bool} {cs : List AV} (h1 : lo ≤ b) (h2 : b < nx) (hl : cs.length = n * sz) (e : h.blk b = some ⟨ty, szk, o, g, cs⟩) : Row sz n (.slc b 0 n (some n)) h lo nx cs :=
  .inr ⟨b, _, _, h1, h2, rfl, hl, e, rfl, .inl rfl⟩
/-- An element of what is read. -/
theorem RV.at {sz n : Nat} {x : AV} {h : Mem} {lo nx : Nat} {m : List AV} (g : RV sz n x h lo nx m) {i : Nat} (hi : i < n) :
    ∃ b o c K, x = .slc b o n c ∧ lo ≤ b ∧ b < nx ∧ h.blk b = some K ∧ (∀ j, j < sz → K.cells[o + i * sz + j]? = m[i * sz + j]?) ∧ sub K.cells (o + i * sz) sz = some ((m.drop (i * sz)).take sz) := by
  rcases g with ⟨rfl, rfl, _⟩ | ⟨b, o, c, K, h1, h2, rfl, h4, h5⟩
  · omega
  · obtain ⟨h6, rfl⟩ := sub_inv h5
    have hle : i * sz + sz ≤ n * sz := by rw [← Nat.succ_mul]; exact Nat.mul_le_mul_right _ hi
    refine ⟨b, o, c, K, rfl, h1, h2, h4, fun j hj => ?_, ?_⟩
    · rw [List.getElem?_take_of_lt (by omega), List.getElem?_drop]
      congr 1
      omega
    · unfold sub
      rw [Nat.ble_eq_true_of_le (by omega)]
      simp only
      congr 1
      rw [List.drop_take, List.take_take, List.drop_drop]
      congr 1
      omega
/-- One cell of what is read. -/
theorem RV.at1 {n : Nat} {x : AV} {h : Mem} {lo nx : Nat} {m : List AV} (g : RV 1 n x h lo nx m) {i : Nat} (hi : i < n) :
    ∃ b o c K v, x = .slc b o n c ∧ lo ≤ b ∧ b < nx ∧ h.blk b = some K ∧ m[i]? = some v ∧ K.cells[o + i]? = some v := by
  obtain ⟨b, o, c, K, e, h1, h2, h3, h4, _⟩ := g.at hi
  have hs := g.size
  have hv := List.getElem?_eq_getElem (l := m) (i := i) (by omega)
  have := h4 0 (by omega)
  simp only [Nat.mul_one, Nat.add_zero] at this
  exact ⟨b, o, c, K, _, e, h1, h2, h3, hv, this.trans hv⟩

/-! ### Marks -/
/-- Marks of none below, of none from a watch on. -/
structure Mk2 (lo lg m : Nat) : Prop where
  low : ∀ q, q < lo → m &&& 2 ^ q = 0
  high : ∀ q, lg ≤ q → m &&& 2 ^ q = 0
theorem Mk2.z (lo lg : Nat) : Mk2 lo lg 0 := ⟨fun _ _ => Nat.zero_and _, fun _ _ => Nat.zero_and _⟩
theorem Mk2.b {lo b : Nat} (lg : Nat) (h : lo ≤ b) : Mk2 lo lg (bit lg b) := by
  refine ⟨fun q hq => ?_, fun q hq => ?_⟩
  · unfold bit
    cases Nat.blt b lg
    · exact Nat.zero_and _
    · exact and_pow (by omega)
  · unfold bit
    cases hb : Nat.blt b lg
    · exact Nat.zero_and _
    · have := Nat.le_of_ble_eq_true hb
      exact and_pow (by omega)
theorem Mk2.or {lo lg a b : Nat} (h : Mk2 lo lg a) (g : Mk2 lo lg b) : Mk2 lo lg (a ||| b) :=
  ⟨fun q hq => by rw [Nat.and_or_distrib_right, h.low q hq, g.low q hq]; rfl, fun q hq => by rw [Nat.and_or_distrib_right, h.high q hq, g.high q hq]; rfl⟩
theorem Mk2.mono {lo lo' lg m : Nat} (h : Mk2 lo lg m) (hl : lo' ≤ lo) : Mk2 lo' lg m := ⟨fun q hq => h.low q (by omega), h.high⟩
theorem Mk2.zero {lo lg m : Nat} (h : Mk2 lo lg m) (hl : lg ≤ lo) : m = 0 := by
  apply Nat.eq_of_testBit_eq
  intro i
  rw [Nat.zero_testBit]
  have e : m &&& 2 ^ i = 0 := by
    by_cases c : i < lo
    · exact h.low i c
    · exact h.high i (by omega)
  have := congrArg (Nat.testBit · i) e
  simpa [Nat.testBit_and, Nat.testBit_two_pow] using this
theorem Mk2.l {lo lg m : Nat} (h : Mk2 lo lg m) {q : Nat} (hq : q < lo ∨ lg ≤ q) : m &&& 2 ^ q = 0 := by
  rcases hq with hq | hq
  · exact h.low q hq
  · exact h.high q hq
theorem Mk2.r {lo lg m : Nat} (h : Mk2 lo lg m) {q : Nat} (hq : q < lo ∨ lg ≤ q) : 2 ^ q &&& m = 0 := by rw [Nat.and_comm]; exact h.l hq
theorem or_z {a b c : Nat} (h : a &&& c = 0) (g : b &&& c = 0) : (a ||| b) &&& c = 0 := by rw [Nat.and_or_distrib_right, h, g]; rfl
theorem z_or {a b c : Nat} (h : c &&& a = 0) (g : c &&& b = 0) : c &&& (a ||| b) = 0 := by rw [Nat.and_or_distrib_left, h, g]; rfl
theorem new_lo {n m p : Nat} (h : p < n) : (2 ^ m - 2 ^ n) &&& 2 ^ p = 0 := by
  by_cases c : m ≤ n
  · have := Nat.pow_le_pow_right (show 0 < 2 by omega) c
    rw [Nat.sub_eq_zero_of_le this, Nat.zero_and]
  · obtain ⟨k, rfl⟩ : ∃ k, m = n + k := ⟨m - n, by omega⟩
    rw [Nat.pow_add, show 2 ^ n * 2 ^ k - 2 ^ n = 2 ^ n * (2 ^ k - 1) by rw [Nat.mul_sub, Nat.mul_one]]
    apply Nat.eq_of_testBit_eq
    intro i
    rw [Nat.testBit_and, Nat.testBit_two_pow, Nat.zero_testBit, Nat.testBit_two_pow_mul]
    by_cases e : p = i
    · subst e; simp; intro hh; omega
    · simp [e]
theorem new_up {m n q : Nat} (h : m ≤ q) : (2 ^ m - 2 ^ n) &&& 2 ^ q = 0 := by
  have h1 : 2 ^ m - 2 ^ n < 2 ^ q := by
    have := Nat.pow_le_pow_right (show 0 < 2 by omega) h
    have := Nat.two_pow_pos n
    have := Nat.two_pow_pos m
    omega
  apply Nat.eq_of_testBit_eq
  intro i
  rw [Nat.testBit_and, Nat.testBit_two_pow, Nat.zero_testBit]
  by_cases c : q = i
  · subst c; simp [Nat.testBit_lt_two_pow h1]
  · simp [c]
theorem lowBits_none {lo lg m : Nat} (h : ∀ q, q < lo → m &&& 2 ^ q = 0) (hl : lg ≤ lo) : lowBits lg m = 0 := by
  apply Nat.eq_of_testBit_eq
  intro i
  rw [lowBits_test, Nat.zero_testBit]
  by_cases c : i < lg
  · have := congrArg (Nat.testBit · i) (h i (by omega))
    simp only [Nat.testBit_and, Nat.testBit_two_pow, decide_true, Bool.and_true, Nat.zero_testBit] at this
    simp [c, this]
  · simp [c]

/-! ### What is read, cut, appended -/
theorem RV.read {sz n : Nat} {x : AV} {h : Mem} {lo nx : Nat} {m : List AV} (g : RV sz n x h lo nx m) (lg : Nat) : ∃ msk, rdEls sz n x h nx lg = some ⟨m, h, nx, msk, 0⟩ ∧ Mk2 lo lg msk := by
  have gs := g.size
  rcases g with ⟨rfl, rfl, rfl⟩ | ⟨b, o, c, K, h1, h2, rfl, h4, h5⟩
  · exact ⟨0, rfl, Mk2.z _ _⟩
  · cases n with
    | zero =>
      obtain rfl := List.eq_nil_of_length_eq_zero (show m.length = 0 by rw [gs, Nat.zero_mul])
      exact ⟨0, rfl, Mk2.z _ _⟩
    | succ n =>
    refine ⟨bit lg b, ?_, Mk2.b lg h1⟩
    unfold rdEls
    simp only [Nat.ble_eq_true_of_le (Nat.le_refl (n + 1)), A.bind, rdBlk, blt_of h2, h4, h5, A.ofOpt, A.ret, Nat.or_zero]
theorem toNle_nat {lim n : Nat} (h : n ≤ lim) : toNle lim (n : Int) = some n := by
  unfold toNle
  simp [h]
theorem mul_div_self {n sz : Nat} (h : 0 < sz) : n * sz / sz = n := Nat.mul_div_cancel n h
/-- Cut from lo0 to hi0. -/
theorem Row.cut {sz n : Nat} (hsz : 0 < sz) {s : AV} {h : Mem} {lo hi nx : Nat} {cs : List AV} (g : Row sz n s h lo hi cs) (hn : hi ≤ nx) {a e : Nat} (ha : a ≤ e) (he : e ≤ n) (lo0 hi0 : Option AV) (hlo : bnd 0 e lo0 = some a) (hhi : ∀ m, n ≤ m → bnd n m hi0 = some e) (lg : Nat) :
    ∃ v msk, sliceA sz s lo0 hi0 none h nx lg = some ⟨v, h, nx, msk, 0⟩ ∧ RV sz (e - a) v h lo hi ((cs.drop (a * sz)).take ((e - a) * sz)) ∧ Mk2 lo lg msk ∧ Mk2 lo hi msk := by
  have hs := g.size
  have sb : ∀ K : Blk, K.cells = cs → sub K.cells (0 + a * sz) ((e - a) * sz) = some ((cs.drop (a * sz)).take ((e - a) * sz)) := by
    intro K hK
    have : a * sz + (e - a) * sz ≤ n * sz := by rw [← Nat.add_mul]; exact Nat.mul_le_mul_right _ (by omega)
    unfold sub
    rw [hK, Nat.ble_eq_true_of_le (by omega)]
    simp
  rcases g with ⟨rfl, rfl, rfl⟩ | ⟨b, K, c, h1, h2, rfl, h4, h5, h6, h7⟩
  · have he0 : e = 0 := by omega
    have ha0 : a = 0 := by omega
    subst he0; subst ha0
    refine ⟨.nils, 0, ?_, .inl ⟨rfl, by omega, by simp⟩, Mk2.z _ _, Mk2.z _ _⟩
    have h0 := hhi 0 (Nat.le_refl 0)
    have z0 : bnd 0 0 none = some 0 := rfl
    unfold sliceA
    simp only [z0, h0, hlo]
    rfl
  · rcases h7 with rfl | ⟨rfl, q1, q2, q3⟩
    · refine ⟨.slc b (0 + a * sz) (e - a) (some (n - a)), 0, ?_, .inr ⟨b, _, _, K, h1, h2, rfl, h5, sb K h6⟩, Mk2.z _ _, Mk2.z _ _⟩
      have h0 := hhi n (Nat.le_refl n)
      have z0 : bnd n n none = some n := rfl
      unfold sliceA
      simp only [z0, h0, hlo]
      rfl
    · refine ⟨.slc b (0 + a * sz) (e - a) none, bit lg b, ?_, .inr ⟨b, _, _, K, h1, h2, rfl, h5, sb K h6⟩, Mk2.b lg h1, ⟨(Mk2.b lg h1).low, fun q hq => ?_⟩⟩
      have hd : (K.cells.length - 0) / sz = n := by rw [h6, h4, Nat.sub_zero]; exact mul_div_self hsz
      have h0 := hhi n (Nat.le_refl n)
      · unfold sliceA
        simp only [A.bind, rdBlk, blt_of (show b < nx by omega), h5, q1, blt_of hsz, q2, Nat.beq_refl, Bool.true_and, hd, h0, hlo, A.ret, Nat.or_zero]
      · unfold bit
        cases Nat.blt b lg
        · exact Nat.zero_and _
        · exact and_pow (by omega)
/-- All of it, with no room behind. -/
theorem Row.clip {sz n : Nat} (hsz : 0 < sz) {s : AV} {h : Mem} {lo nx : Nat} {cs : List AV} (g : Row sz n s h lo nx cs) (lg : Nat) :
    ∃ v msk, sliceA sz s none (some (.int .i64 n)) (some (.int .i64 n)) h nx lg = some ⟨v, h, nx, msk, 0⟩ ∧ Row sz n v h lo nx cs ∧ Mk2 lo lg msk := by
  have b1 : ∀ d lim, n ≤ lim → bnd d lim (some (.int .i64 (n : Int))) = some n := fun d lim hl => toNle_nat hl
  rcases g with ⟨rfl, rfl, rfl⟩ | ⟨b, K, c, h1, h2, rfl, h4, h5, h6, h7⟩
  · refine ⟨.nils, 0, ?_, .inl ⟨rfl, rfl, rfl⟩, Mk2.z _ _⟩
    unfold sliceA
    simp only [b1 0 0 (Nat.le_refl 0)]
    rfl
  · rcases h7 with rfl | ⟨rfl, q1, q2, q3⟩
    · refine ⟨.slc b 0 n (some n), 0, ?_, .inr ⟨b, K, some n, h1, h2, rfl, h4, h5, h6, .inl rfl⟩, Mk2.z _ _⟩
      have z0 : bnd 0 n none = some 0 := rfl
      unfold sliceA
      simp only [b1 _ _ (Nat.le_refl n), z0, Nat.zero_mul, Nat.add_zero, Nat.sub_zero]
      rfl
    · refine ⟨.slc b 0 n (some n), bit lg b, ?_, .inr ⟨b, K, some n, h1, h2, rfl, h4, h5, h6, .inl rfl⟩, Mk2.b lg h1⟩
      have hd : (K.cells.length - 0) / sz = n := by rw [h6, h4, Nat.sub_zero]; exact mul_div_self hsz
      have hd2 : K.cells.length / sz = n := by rw [h6, h4]; exact mul_div_self hsz
      have z0 : bnd 0 n none = some 0 := rfl
      unfold sliceA
      simp only [A.bind, rdBlk, blt_of h2, h5, q1, blt_of hsz, q2, Nat.beq_refl, Bool.true_and, hd, hd2, b1 _ _ (Nat.le_refl n), z0, A.ret, Nat.or_zero, Nat.zero_mul, Nat.add_zero, Nat.sub_zero]
/-- More behind it. -/
theorem Row.app {sz n k : Nat} (hsz : 0 < sz) {s x : AV} {h : Mem} {lo lox nx : Nat} {cs m : List AV} (ty bytes : Nat) (g : Row sz n s h lo nx cs) (gx : RV sz k x h lox nx m) (hlo : lo ≤ nx) (hf : ∀ i, i ≤ n + k → fits i bytes = true) (hm : m.all AV.one = true) (lg : Nat) :
    ∃ v h' nx' tc wr, appOp ty sz bytes s x h nx lg = some ⟨v, h', nx', tc, wr⟩ ∧ nx ≤ nx' ∧ Row sz (n + k) v h' lo nx' (cs ++ m) ∧ (∀ b, b < lo → h'.blk b = h.blk b) ∧ Mk2 (min lo lox) lg tc ∧ Mk2 lo lg wr := by
  obtain ⟨mr, er, kr⟩ := gx.read lg
  have hl := gx.lenA
  have hs := g.size
  have hms := gx.size
  have kr' : Mk2 (min lo lox) lg mr := kr.mono (Nat.min_le_right _ _)
  have go : ∀ v h' nx' tc wr, appA ty sz bytes k s m h nx lg = some ⟨v, h', nx', tc, wr⟩ → appOp ty sz bytes s x h nx lg = some ⟨v, h', nx', mr ||| tc, 0 ||| wr⟩ := by
    intro v h' nx' tc wr e
    unfold appOp
    rw [hl]
    simp only [A.bind, er, e]
  by_cases k0 : k = 0
  · subst k0
    have hm0 : m = [] := List.eq_nil_of_length_eq_zero (by rw [hms]; simp)
    subst hm0
    have e : appA ty sz bytes 0 s [] h nx lg = some ⟨s, h, nx, 0, 0⟩ := by
      have hn : Nat.beq 0 0 = true := rfl
      unfold appA
      rw [hn]
      rcases g with ⟨rfl, _⟩ | ⟨b, K, c, _, _, rfl, _⟩ <;> rfl
    refine ⟨_, _, _, _, _, go _ _ _ _ _ e, Nat.le_refl _, by simpa using g, fun _ _ => rfl, by simpa using kr', by simpa using Mk2.z lo lg⟩
  · have hn : Nat.beq k 0 = false := by cases c : Nat.beq k 0 with | false => rfl | true => exact absurd (Nat.eq_of_beq_eq_true c) k0
    have hpos : 0 < k * sz := Nat.mul_pos (Nat.pos_of_ne_zero k0) hsz
    have newRow : ∀ (ty' : Nat) (h0 : Mem), (∀ b, b < lo → h0.blk b = h.blk b) → Row sz (n + k) (.slc nx 0 (n + k) none) (h0.set nx (some ⟨ty', sz, true, true, cs ++ m⟩)) lo (nx + 1) (cs ++ m) ∧ ∀ b, b < lo → (h0.set nx (some ⟨ty', sz, true, true, cs ++ m⟩)).blk b = h.blk b := by
      intro ty' h0 hk
      refine ⟨.inr ⟨nx, _, none, hlo, by omega, rfl, by rw [List.length_append, hs, hms, Nat.add_mul], Mem.blk_set_same .., rfl, .inr ⟨rfl, rfl, rfl, rfl⟩⟩, fun b hb => ?_⟩
      rw [Mem.blk_set_ne _ _ _ _ (by omega), hk b hb]
    rcases g with ⟨rfl, rfl, rfl⟩ | ⟨b, K, c, h1, h2, rfl, h4, h5, h6, h7⟩
    · have e : appA ty sz bytes k .nils m h nx lg = some ⟨.slc nx 0 k none, h.set nx (some ⟨ty, sz, true, true, m⟩), nx + 1, 0, 0⟩ := by
        unfold appA
        rw [hn]
        simp only [hf k (by omega), A.bind, newBlk, A.ret]
        rfl
      obtain ⟨r1, r2⟩ := newRow ty h (fun _ _ => rfl)
      simp only [Nat.zero_add, List.nil_append] at r1 r2
      exact ⟨_, _, _, _, _, go _ _ _ _ _ e, by omega, by simpa using r1, r2, by simpa using kr', by simpa using Mk2.z lo lg⟩
    · rcases h7 with rfl | ⟨rfl, q1, q2, q3⟩
      · have hble : Nat.ble (n + k) n = false := by
          cases hc : Nat.ble (n + k) n with
          | false => rfl
          | true => have := Nat.le_of_ble_eq_true hc; omega
        have hsub := sub_all cs (n * sz) h4.symm
        have e : appA ty sz bytes k (.slc b 0 n (some n)) m h nx lg = some ⟨.slc nx 0 (n + k) none, h.set nx (some ⟨ty, sz, true, true, cs ++ m⟩), nx + 1, bit lg b, 0⟩ := by
          unfold appA
          rw [hn]
          simp only [hble, hf _ (Nat.le_refl _), A.bind, rdBlk, blt_of h2, h5, h6, hsub, A.ofOpt, newBlk, A.ret, Nat.or_zero, Nat.zero_or, Nat.or_self]
        obtain ⟨r1, r2⟩ := newRow ty h (fun _ _ => rfl)
        exact ⟨_, _, _, _, _, go _ _ _ _ _ e, by omega, r1, r2, kr'.or (Mk2.b lg (Nat.le_trans (Nat.min_le_left _ _) h1)), by simpa using Mk2.z lo lg⟩
      · have hble : Nat.ble (0 + (n + k) * sz) K.cells.length = false := by
          cases hc : Nat.ble (0 + (n + k) * sz) K.cells.length with
          | false => rfl
          | true =>
            have := Nat.le_of_ble_eq_true hc
            rw [h6, h4, Nat.add_mul] at this
            omega
        have hsub := sub_all cs (n * sz) h4.symm
        obtain ⟨kt, ks, ko, kg, kc⟩ := K
        simp only at q1 q2 q3 h6
        subst q1; subst q2; subst q3; subst h6
        have e : appA ty ks bytes k (.slc b 0 n none) m h nx lg = some ⟨.slc nx 0 (n + k) none, (h.set b none).set nx (some ⟨kt, ks, true, true, kc ++ m⟩), nx + 1, bit lg b, bit lg b⟩ := by
          unfold appA
          rw [hn]
          simp only [A.bind, rdBlk, blt_of h2, h5, Nat.beq_refl, Bool.true_and, hm, hble, hf _ (Nat.le_refl _), hsub, A.ofOpt, A.ret, movBlk, Nat.or_zero, Nat.zero_or, Nat.or_self]
        obtain ⟨r1, r2⟩ := newRow kt (h.set b none) (fun x hx => Mem.blk_set_ne _ _ _ _ (by omega))
        exact ⟨_, _, _, _, _, go _ _ _ _ _ e, by omega, r1, r2, kr'.or (Mk2.b lg (Nat.le_trans (Nat.min_le_left _ _) h1)), by simpa using Mk2.b lg h1⟩
/-- Few bytes. -/
theorem fits_few {n b : Nat} (h1 : n ≤ 1000000) (h2 : b ≤ 1000000) : fits n b = true := by
  unfold fits
  have : n * b ≤ 1000000 * 1000000 := Nat.mul_le_mul h1 h2
  rw [Nat.ble_eq_true_of_le (by omega), Nat.ble_eq_true_of_le (by omega)]
  rfl
end Go.Proofs.YtadenjdkknakgaaE

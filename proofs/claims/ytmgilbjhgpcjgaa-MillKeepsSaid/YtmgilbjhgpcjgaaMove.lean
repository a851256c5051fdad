/- Mill: move (printed by gen.py). -/
import Derived.Test.YtmgilbjhgpcjgaaFn
namespace Go.Proofs.YtmgilbjhgpcjgaaT
open Go Go.Proofs.YtmgilbjhgpcjgaaE Go.Proofs.YtmgilbjhgpcjgaaB
set_option linter.unusedSimpArgs false
set_option linter.unusedVariables false
attribute [local congr] Post_cg PostL_cg condP_cg

/-- A cell goes last into another stretch. -/
def mv (S : Nat → List Int) (w c : Nat) (T : List Int) (i : Int) : Nat → List Int := fun k => if k = c then S c ++ [i] else if k = w then T else S k
/-- What a move comes to. -/
def Moved (w c : Nat) (h : Mem) (nx p r bn bp bc : Nat) (S : Nat → List Int) (a b : List Int) (i : Int) (n lg : Nat) : Prop :=
  Post (xF T 200 27 [.ptr p 0, .int .i64 i, .int .i64 (c : Int)] h nx lg) fun v h' nx' tc wr => nx' = nx ∧ (∃ X' Y', ML h' nx p r bn bp bc X' Y' (mv S w c (a ++ b) i) n) ∧ ∀ x, x ≠ p → x ≠ r → x ≠ bn → x ≠ bp → x ≠ bc → h'.blk x = h.blk x ∧ wr &&& 2 ^ x = 0
theorem low_z {lg m x : Nat} (h : m &&& 2 ^ x = 0) : lowBits lg m &&& 2 ^ x = 0 := by
  apply Nat.eq_of_testBit_eq; intro i
  rw [Nat.testBit_and, lowBits_test, Nat.zero_testBit]
  have := congrArg (fun k => Nat.testBit k i) h
  simp only [Nat.testBit_and, Nat.zero_testBit] at this
  cases a : m.testBit i <;> cases b : (2 ^ x).testBit i <;> simp_all
theorem lay10 (x0 x1 x2 x3 x4 x5 x6 x7 x8 x9 y : AV) : lay [x0, x1, x2, x3, x4, x5, x6, x7, x8, x9] 2 [y] = [x0, x1, y, x3, x4, x5, x6, x7, x8, x9] ∧ lay [x0, x1, x2, x3, x4, x5, x6, x7, x8, x9] 3 [y] = [x0, x1, x2, y, x4, x5, x6, x7, x8, x9] ∧ lay [x0, x1, x2, x3, x4, x5, x6, x7, x8, x9] 4 [y] = [x0, x1, x2, x3, y, x5, x6, x7, x8, x9] ∧ lay [x0, x1, x2, x3, x4, x5, x6, x7, x8, x9] 5 [y] = [x0, x1, x2, x3, x4, y, x6, x7, x8, x9] ∧ lay [x0, x1, x2, x3, x4, x5, x6, x7, x8, x9] 6 [y] = [x0, x1, x2, x3, x4, x5, y, x7, x8, x9] ∧ lay [x0, x1, x2, x3, x4, x5, x6, x7, x8, x9] 7 [y] = [x0, x1, x2, x3, x4, x5, x6, y, x8, x9] ∧ lay [x0, x1, x2, x3, x4, x5, x6, x7, x8, x9] 8 [y] = [x0, x1, x2, x3, x4, x5, x6, x7, y, x9] ∧ lay [x0, x1, x2, x3, x4, x5, x6, x7, x8, x9] 9 [y] = [x0, x1, x2, x3, x4, x5, x6, x7, x8, y] := by
  repeat' first | exact rfl | refine ⟨?_, ?_⟩

end Go.Proofs.YtmgilbjhgpcjgaaT

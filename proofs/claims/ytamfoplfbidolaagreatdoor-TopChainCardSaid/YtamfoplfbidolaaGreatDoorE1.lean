/- The engine's words, part 1: abstract values, memory, the monad of an abstract run, operations.
   An abstract run follows the model's code over a memory of numbered blocks; parts 2 and further show that what it answers is what the model answers, on every tape. -/
import Derived.Calls
import Derived.Orders
import Derived.Laws.Entries
namespace Go.Proofs.YtamfoplfbidolaaGreatDoorE
set_option linter.unusedVariables false
set_option linter.unusedSimpArgs false
open Go

/-! ### Values -/
inductive AV where
  | bool (b : Bool)
  | int (k : IntKind) (n : Int)
  | str (s : ByteArray)
  /-- a cell of a block -/
  | ptr (b o : Nat)
  | null
  /-- of a block: from a cell on, so many elements; how many there may be (none: up to the block's end, which is not known) -/
  | slc (b o n : Nat) (c : Option Nat)
  | nils
  | ifc (t : TypeId) (v : AV)
  | nili
  | fn (f : FuncId) (fs cs : List AV)
  | nilf
  | agg (cs : List AV)
  | tup (cs : List AV)
  /-- a map's block: its cells are keys and values in turn -/
  | map (b : Nat)
  | nilm
  deriving Inhabited

def AV.cells : AV → List AV
  | .agg cs => cs
  | v => [v]

/-- A value of one cell. -/
def AV.one : AV → Bool
  | .agg _ | .tup _ => false
  | _ => true

/-! ### Memory: a tree of blocks -/
structure Blk where
  ty : TypeId
  /-- cells of an element -/
  sz : Nat
  /-- may be written: it is of the call's own -/
  own : Bool
  /-- there may be room behind its cells -/
  grow : Bool
  cells : List AV

inductive Tr (α : Type) where
  | lf
  | nd (l : Tr α) (v : Option α) (r : Tr α)

def Tr.get {α : Type} : Tr α → Nat → Option α
  | .lf, _ => none
  | .nd l v r, k => match Nat.beq k 0 with
    | true => v
    | false => match Nat.beq (k % 2) 1 with
      | true => l.get (k / 2)
      | false => r.get (k / 2 - 1)

def Tr.put {α : Type} : Nat → Tr α → Nat → Option α → Tr α
  | 0, t, _, _ => t
  | f + 1, .lf, k, x => match Nat.beq k 0 with
    | true => .nd .lf x .lf
    | false => match Nat.beq (k % 2) 1 with
      | true => .nd (Tr.put f .lf (k / 2) x) none .lf
      | false => .nd .lf none (Tr.put f .lf (k / 2 - 1) x)
  | f + 1, .nd l v r, k, x => match Nat.beq k 0 with
    | true => .nd l x r
    | false => match Nat.beq (k % 2) 1 with
      | true => .nd (Tr.put f l (k / 2) x) v r
      | false => .nd l v (Tr.put f r (k / 2 - 1) x)

theorem Tr.get_lf {α : Type} (k : Nat) : (Tr.lf : Tr α).get k = none := rfl

theorem Tr.get_put {α : Type} : ∀ (f : Nat) (t : Tr α) (k : Nat) (x : Option α) (j : Nat), k < f → (Tr.put f t k x).get j = if j = k then x else t.get j
  | 0, _, _, _, _, h => absurd h (Nat.not_lt_zero _)
  | f + 1, t, k, x, j, h => by
    have hk : Nat.beq k 0 = decide (k = 0) := by cases k <;> rfl
    have hj : Nat.beq j 0 = decide (j = 0) := by cases j <;> rfl
    have e1 : ∀ n, Nat.beq (n % 2) 1 = decide (n % 2 = 1) := fun n => by
      rcases Nat.mod_two_eq_zero_or_one n with e | e <;> rw [e] <;> rfl
    have ih1 := @Tr.get_put α f
    cases t with
    | lf =>
      by_cases k0 : k = 0
      · subst k0
        by_cases j0 : j = 0
        · subst j0; simp [Tr.put, Tr.get]
        · simp only [Tr.put, Tr.get, hj, e1, j0, decide_false, if_false]
          cases decide (j % 2 = 1) <;> simp [Tr.get]
      · by_cases kp : k % 2 = 1
        · by_cases j0 : j = 0
          · subst j0; simp [Tr.put, Tr.get, hk, e1, k0, kp, Ne.symm k0]
          · by_cases jp : j % 2 = 1
            · simp only [Tr.put, Tr.get, hk, hj, e1, k0, kp, j0, jp, decide_false, decide_true]
              rw [ih1 _ _ _ _ (by omega)]
              by_cases e : j = k
              · simp [e]
              · rw [if_neg e, if_neg (by omega)]; rfl
            · simp only [Tr.put, Tr.get, hk, hj, e1, k0, kp, j0, jp, decide_false, decide_true]
              rw [if_neg (by omega)]
        · by_cases j0 : j = 0
          · subst j0; simp [Tr.put, Tr.get, hk, e1, k0, kp, Ne.symm k0]
          · by_cases jp : j % 2 = 1
            · simp only [Tr.put, Tr.get, hk, hj, e1, k0, kp, j0, jp, decide_false, decide_true]
              rw [if_neg (by omega)]
            · simp only [Tr.put, Tr.get, hk, hj, e1, k0, kp, j0, jp, decide_false]
              rw [ih1 _ _ _ _ (by omega)]
              by_cases e : j = k
              · simp [e]
              · rw [if_neg e, if_neg (by omega)]; rfl
    | nd l v r =>
      by_cases k0 : k = 0
      · subst k0
        by_cases j0 : j = 0
        · subst j0; simp [Tr.put, Tr.get]
        · simp only [Tr.put, Tr.get, hk, hj, decide_true, j0, decide_false, if_false]
      · by_cases kp : k % 2 = 1
        · by_cases j0 : j = 0
          · subst j0; simp [Tr.put, Tr.get, hk, e1, k0, kp, Ne.symm k0]
          · by_cases jp : j % 2 = 1
            · simp only [Tr.put, Tr.get, hk, hj, e1, k0, kp, j0, jp, decide_false, decide_true]
              rw [ih1 _ _ _ _ (by omega)]
              by_cases e : j = k
              · simp [e]
              · rw [if_neg e, if_neg (by omega)]
            · simp only [Tr.put, Tr.get, hk, hj, e1, k0, kp, j0, jp, decide_false, decide_true]
              rw [if_neg (by omega)]
        · by_cases j0 : j = 0
          · subst j0; simp [Tr.put, Tr.get, hk, e1, k0, kp, Ne.symm k0]
          · by_cases jp : j % 2 = 1
            · simp only [Tr.put, Tr.get, hk, hj, e1, k0, kp, j0, jp, decide_false, decide_true]
              rw [if_neg (by omega)]
            · simp only [Tr.put, Tr.get, hk, hj, e1, k0, kp, j0, jp, decide_false]
              rw [ih1 _ _ _ _ (by omega)]
              by_cases e : j = k
              · simp [e]
              · rw [if_neg e, if_neg (by omega)]

abbrev Mem := Tr Blk
def Mem.blk (h : Mem) (b : Nat) : Option Blk := Tr.get h b
def Mem.set (h : Mem) (b : Nat) (k : Option Blk) : Mem := Tr.put (b + 1) h b k
def Mem.empty : Mem := Tr.lf
theorem Mem.blk_empty (b : Nat) : Mem.empty.blk b = none := rfl
theorem Mem.blk_set (h : Mem) (b : Nat) (k : Option Blk) (j : Nat) : (h.set b k).blk j = if j = b then k else h.blk j := Tr.get_put _ h b k j (Nat.lt_succ_self b)
theorem Mem.blk_set_same (h : Mem) (b : Nat) (k : Option Blk) : (h.set b k).blk b = k := by rw [Mem.blk_set, if_pos rfl]
theorem Mem.blk_set_ne (h : Mem) (b : Nat) (k : Option Blk) (j : Nat) (e : j ≠ b) : (h.set b k).blk j = h.blk j := by rw [Mem.blk_set, if_neg e]

/-! ### An abstract run: memory, the next block's number, what is watched (blocks below it); what was touched, what was written -/
structure Rs (α : Type) where
  v : α
  h : Mem
  nx : Nat
  tc : Nat
  wr : Nat

def A (α : Type) : Type := Mem → Nat → Nat → Option (Rs α)

def A.ret {α : Type} (v : α) : A α := fun h n _ => some ⟨v, h, n, 0, 0⟩
def A.fail {α : Type} : A α := fun _ _ _ => none
def A.bind {α β : Type} (x : A α) (f : α → A β) : A β := fun h n lg =>
  match x h n lg with
  | none => none
  | some r => match f r.v r.h r.nx lg with
    | none => none
    | some s => some ⟨s.v, s.h, s.nx, r.tc ||| s.tc, r.wr ||| s.wr⟩
def A.ofOpt {α : Type} : Option α → A α
  | some v => A.ret v
  | none => A.fail

/-- The mark of a block that is watched. -/
def bit (lg b : Nat) : Nat := match Nat.blt b lg with
  | true => 2 ^ b
  | false => 0

def rdBlk (b : Nat) : A Blk := fun h n lg =>
  match Nat.blt b n with
  | false => none
  | true => match h.blk b with
    | none => none
    | some k => some ⟨k, h, n, bit lg b, 0⟩
/-- The cells of a block of the call's own are written anew; as many as there were. -/
def wrBlk (b : Nat) (cs : List AV) : A Unit := fun h n lg => match Nat.blt b n with
 | false => none
 | true => match h.blk b with
  | none => none
  | some k => match k.own && Nat.beq cs.length k.cells.length with
    | true => some ⟨(), h.set b (some { k with cells := cs }), n, bit lg b, bit lg b⟩
    | false => none
def newBlk (ty sz : Nat) (grow : Bool) (cs : List AV) : A Nat := fun h n _ => some ⟨n, h.set n (some ⟨ty, sz, true, grow, cs⟩), n + 1, 0, 0⟩
/-- A map's cells anew, however many. -/
def wrMap (b : Nat) (cs : List AV) : A Unit := fun h n lg => match Nat.blt b n with
 | false => none
 | true => match h.blk b with
  | none => none
  | some k => match k.own with
    | true => some ⟨(), h.set b (some { k with cells := cs }), n, bit lg b, bit lg b⟩
    | false => none
/-- A block that nobody may use any more; another one has its cells from one on, and more. -/
def movBlk (b o : Nat) (cs : List AV) : A Nat := fun h n lg => match Nat.blt b n with
 | false => none
 | true => match h.blk b with
  | none => none
  | some k => match k.own && k.grow with
    | true => some ⟨n, (h.set b none).set n (some ⟨k.ty, k.sz, true, true, cs⟩), n + 1, bit lg b, bit lg b⟩
    | false => none

/-! ### Operations -/
inductive X where
  | t (i : Nat)
  | c (v : AV)
  deriving Inhabited

/-- How two values of a type are compared. -/
inductive EqK where
  | b | i | s
  /-- pointers, slices, interfaces: one of the two is nil -/
  | p | l | f
  | st (fs : List (Nat × Nat × EqK))

inductive AOp where
  | mov (x : X)
  | pick (c a b : X)
  | alloc (ty sz : Nat) (z : List AV)
  | box (ty sz : Nat) (x : X)
  | build (z : List AV) (ps : List (Nat × Nat × X))
  | bslice (ty sz len : Nat) (z : List AV) (ps : List (Nat × Nat × X))
  | load (n : Option Nat) (a : X)
  | store (n : Nat) (a x : X)
  | nilc (x : X)
  | bin (op : BinOp) (x y : X)
  | eq (neg : Bool) (k : EqK) (x y : X)
  | not (x : X)
  | un (op : UnOp) (x : X)
  | conv (k : IntKind) (x : X)
  | faddr (o : Nat) (x : X)
  | fld (o : Nat) (n : Option Nat) (x : X)
  /-- the address of an element: of an array of so many -/
  | iarr (len sz : Nat) (x i : X)
  | islc (sz : Nat) (x i : X)
  | ixa (len sz : Nat) (n : Option Nat) (x i : X)
  | ixs (x i : X)
  | ext (x : X) (i : Nat)
  | len (str : Bool) (x : X)
  | lenc (n : Nat)
  | mn (xs : List X)
  | mx (xs : List X)
  | app (ty sz bytes : Nat) (s x : X)
  | appz (ty sz bytes : Nat) (z : List AV) (s x : X)
  | slstr (x : X) (lo hi : Option X)
  | slice (sz : Nat) (x : X) (lo hi mx : Option X)
  | slarr (len sz : Nat) (x : X) (lo hi mx : Option X)
  | mksl (ty sz bytes : Nat) (z : List AV) (l c : X)
  | copy (sz : Nat) (d s : X)
  | call (f : FuncId) (xs : List X)
  /-- an interface's value -/
  | mki (t : TypeId) (x : X)
  /-- a function with what it holds; it is called -/
  | mkf (f : FuncId) (fs xs : List X)
  | callv (x : X) (xs : List X)
  /-- a method by the type that is there; some: of what lies there, so far behind -/
  | inv (rows : List (TypeId × Option Nat × FuncId)) (x : X) (xs : List X)
  | capn (x : X)
  | i2s (x : X)
  | b2s (x : X)
  /-- no nil, where a method's value may be meant -/
  | nilq (rows : List (TypeId × Option Nat × FuncId)) (x : X)
  /-- how many bytes of a text are this one -/
  | cnt (x y : X)
  | mkm
  | mlen (x : X)
  | mget (k : EqK) (z : AV) (ok : Bool) (x i : X)
  | mput (k : EqK) (x i v : X)
  | mdel (k : EqK) (x i : X)
  /-- an entry is looked for, or made; its value, its stamp -/
  | ment (k : EqK) (z : AV) (x i : X)
  | mest (x s v : X)
  /-- what the engine does not know -/
  | bad

def X.ev (ts : List AV) : X → AV
  | .t i => ts.getD i (.tup [])
  | .c v => v

/-- The cells of a list from one on, some of them; none: they are not all there. -/
def sub {α : Type} (cs : List α) (o n : Nat) : Option (List α) := match Nat.ble (o + n) cs.length with
  | true => some ((cs.drop o).take n)
  | false => none
/-- Cells laid over others. -/
def lay {α : Type} (cs : List α) (o : Nat) (xs : List α) : List α := cs.take o ++ xs ++ cs.drop (o + xs.length)

def reps {α : Type} : Nat → List α → List α
  | 0, _ => []
  | n + 1, z => z ++ reps n z

def fillA (cs : List AV) : List (Nat × Nat × AV) → Option (List AV)
  | [] => some cs
  | (o, n, v) :: r => match Nat.beq v.cells.length n && Nat.ble (o + n) cs.length with
    | true => fillA (lay cs o v.cells) r
    | false => none

def ibin (op : BinOp) (k : IntKind) (a b : Int) : Option AV :=
  match op with
  | .add => some (.int k (k.wrap (a + b)))
  | .sub => some (.int k (k.wrap (a - b)))
  | .mul => some (.int k (k.wrap (a * b)))
  | .quo => match decide (b = 0) with
    | true => none
    | false => some (.int k (k.wrap (a.tdiv b)))
  | .rem => match decide (b = 0) with
    | true => none
    | false => some (.int k (a.tmod b))
  | .and => some (.int k (Go.bits .and k a b))
  | .or => some (.int k (Go.bits .or k a b))
  | .xor => some (.int k (Go.bits .xor k a b))
  | .andNot => some (.int k (Go.bits .andNot k a b))
  | .eql => some (.bool (a == b))
  | .neq => some (.bool (a != b))
  | .lss => some (.bool (decide (a < b)))
  | .leq => some (.bool (decide (a ≤ b)))
  | .gtr => some (.bool (decide (a > b)))
  | .geq => some (.bool (decide (a ≥ b)))
  | _ => none

def ishift (op : BinOp) (k : IntKind) (a b : Int) : Option AV :=
  match decide (b < 0) with
  | true => none
  | false => match op with
    | .shl => some (.int k (k.wrap (a * 2 ^ (min b.toNat k.bits))))
    | .shr => some (.int k (a.fdiv (2 ^ (min b.toNat k.bits))))
    | _ => none

def isShift : BinOp → Bool
  | .shl | .shr => true
  | _ => false

def abin (op : BinOp) : AV → AV → Option AV
  | .int k a, .int k' b => match isShift op with
    | true => ishift op k a b
    | false => match decide (k = k') with
      | true => ibin op k a b
      | false => none
  | .str a, .str b => match op with
    | .eql => some (.bool (a.toList == b.toList))
    | .neq => some (.bool (!(a.toList == b.toList)))
    | .lss => some (.bool (Op.bytesLess a.toList b.toList))
    | .add => match Nat.ble (a.size + b.size) 9223372036854775807 with
      | true => some (.str (a ++ b))
      | false => none
    | _ => none
  | _, _ => none

/-- A part of a struct that is compared. -/
def partK : EqK → List AV → Nat → Nat → Option AV
  | .st _, xs, o, n => (sub xs o n).map .agg
  | _, xs, o, _ => xs[o]?

def eqB : AV → AV → Option Bool
  | .bool a, .bool b => some (a == b)
  | _, _ => none
def eqI : AV → AV → Option Bool
  | .int k a, .int k' b => match decide (k = k') with
    | true => some (a == b)
    | false => none
  | _, _ => none
def eqS : AV → AV → Option Bool
  | .str a, .str b => some (a == b)
  | _, _ => none
def eqP : AV → AV → Option Bool
  | .null, .null => some true
  | .null, .ptr _ _ => some false
  | .ptr _ _, .null => some false
  | _, _ => none
def eqL : AV → AV → Option Bool
  | .nils, .nils => some true
  | .nils, .slc _ _ _ _ => some false
  | .slc _ _ _ _, .nils => some false
  | _, _ => none
def eqIf : AV → AV → Option Bool
  | .nili, .ifc _ _ => some false
  | .ifc _ _, .nili => some false
  | _, _ => none

mutual
def eqA : EqK → AV → AV → Option Bool
  | .b, x, y => eqB x y
  | .i, x, y => eqI x y
  | .s, x, y => eqS x y
  | .p, x, y => eqP x y
  | .l, x, y => eqL x y
  | .f, x, y => eqIf x y
  | .st fs, .agg xs, .agg ys => eqFs fs xs ys
  | .st _, _, _ => none
def eqFs : List (Nat × Nat × EqK) → List AV → List AV → Option Bool
  | [], _, _ => some true
  | (o, n, k) :: r, xs, ys => match partK k xs o n, partK k ys o n with
    | some x, some y => match eqA k x y with
      | some true => eqFs r xs ys
      | some false => some false
      | none => none
    | _, _ => none
end

def toN (lim : Nat) (i : Int) : Option Nat := match decide (0 ≤ i) && decide (i < lim) with
  | true => some i.toNat
  | false => none
def toNle (lim : Nat) (i : Int) : Option Nat := match decide (0 ≤ i) && decide (i ≤ lim) with
  | true => some i.toNat
  | false => none

def asI : AV → Option Int
  | .int _ n => some n
  | _ => none
/-- A bound of a slice expression: what is not said is d. -/
def bnd (d lim : Nat) : Option AV → Option Nat
  | none => some d
  | some (.int _ n) => toNle lim n
  | some _ => none

/-- The cells that a value is read as, n elements. -/
def rdEls (sz n : Nat) : AV → A (List AV)
  | .slc b o m _ => match n with
    | 0 => A.ret []
    | n + 1 => match Nat.ble (n + 1) m with
      | true => A.bind (rdBlk b) fun k => A.ofOpt (sub k.cells o ((n + 1) * sz))
      | false => A.fail
  | .nils => match Nat.beq n 0 with
    | true => A.ret []
    | false => A.fail
  | .str s => match Nat.ble n s.size && Nat.beq sz 1 with
    | true => A.ret ((s.data.toList.take n).map fun b => .int .u8 b.toNat)
    | false => A.fail
  | _ => A.fail

def lenA : AV → Option Nat
  | .slc _ _ n _ => some n
  | .nils => some 0
  | .str s => some s.size
  | _ => none

/-- Is there room for an array of so many elements, whatever was asked for? -/
def fits (need bytes : Nat) : Bool := Nat.ble need (2 ^ 48) && Nat.ble (need * bytes) (2 ^ 47)

/-- n elements are appended. -/
def appA (ty sz bytes n : Nat) (s : AV) (xs : List AV) : A AV :=
  match Nat.beq n 0 with
  | true => match s with
    | .slc b o m c => A.ret (.slc b o m c)
    | .nils => A.ret .nils
    | _ => A.fail
  | false => match s with
    | .nils => match fits n bytes with
      | true => A.bind (newBlk ty sz true xs) fun b => A.ret (.slc b 0 n none)
      | false => A.fail
    | .slc b o m (some c) => match Nat.ble (m + n) c with
      | true => A.bind (rdBlk b) fun k => match Nat.ble (o + (m + n) * sz) k.cells.length && xs.all AV.one with
        | true => A.bind (wrBlk b (lay k.cells (o + m * sz) xs)) fun _ => A.ret (.slc b o (m + n) (some c))
        | false => A.fail
      | false => match fits (m + n) bytes with
        | true => A.bind (rdBlk b) fun k => A.bind (A.ofOpt (sub k.cells o (m * sz))) fun old =>
            A.bind (newBlk ty sz true (old ++ xs)) fun b => A.ret (.slc b 0 (m + n) none)
        | false => A.fail
    | .slc b o m none => A.bind (rdBlk b) fun k => match k.grow && Nat.beq k.sz sz with
      | true => match xs.all AV.one with
       | false => A.fail
       | true => match Nat.ble (o + (m + n) * sz) k.cells.length with
        | true => A.bind (wrBlk b (lay k.cells (o + m * sz) xs)) fun _ => A.ret (.slc b o (m + n) none)
        | false => match fits (m + n) bytes with
          | true => A.bind (A.ofOpt (sub k.cells o (m * sz))) fun old => A.bind (movBlk b o (old ++ xs)) fun b => A.ret (.slc b 0 (m + n) none)
          | false => A.fail
      | false => A.fail
    | _ => A.fail

def min2A : Option AV → AV → Option AV
  | some (.int k x), .int _ y => some (.int k (if y < x then y else x))
  | _, _ => none
def max2A : Option AV → AV → Option AV
  | some (.int k x), .int _ y => some (.int k (if y > x then y else x))
  | _, _ => none
def minI : List AV → Option AV
  | .int k x :: r => r.foldl min2A (some (.int k x))
  | _ => none
def maxI : List AV → Option AV
  | .int k x :: r => r.foldl max2A (some (.int k x))
  | _ => none

def partA (cs : List AV) (o : Nat) : Option Nat → Option AV
  | none => cs[o]?
  | some n => (sub cs o n).map .agg

/-- A type's row of methods. -/
def rowA : List (TypeId × Option Nat × FuncId) → TypeId → Option (Option Nat × FuncId)
  | [], _ => none
  | (t, r) :: l, u => match Nat.beq t u with
    | true => some r
    | false => rowA l u
/-- Bytes as a text. -/
def bytesA : List AV → ByteArray → Option ByteArray
  | [], s => some s
  | .int .u8 n :: r, s => bytesA r (s.push (UInt8.ofNat n.toNat))
  | _, _ => none
/-- Where a key is among a map's entries (key, value, stamp), and its value. -/
def findA (q : EqK) (x : AV) : List AV → Nat → Option (Option (Nat × AV))
  | [], _ => some none
  | k :: v :: _ :: r, i => match eqA q x k with
    | some true => some (some (i, v))
    | some false => findA q x r (i + 3)
    | none => none
  | _ :: _ :: [], _ => none
  | _ :: [], _ => none
/-- Where a stamp is. -/
def findS (n : Int) : List AV → Nat → Option Nat
  | _ :: _ :: .int .i64 m :: r, i => match decide (m = n) with
    | true => some i
    | false => findS n r (i + 3)
  | _, _ => none
/-- The clock of a map. -/
def clockA : List AV → Option Int
  | .int .i64 c :: _ => some c
  | _ => none
/-- A value, and, where it is asked for, whether it was there. -/
def okA : Bool → AV → Bool → AV
  | true, v, b => .tup [v, .bool b]
  | false, v, _ => v
/-- Are two plain values the same? -/
def sameC : AV → AV → Bool
  | .bool a, .bool b => a == b
  | .int k a, .int j b => decide (k = j) && (a == b)
  | .str a, .str b => a == b
  | _, _ => false
def sameL : List AV → List AV → Bool
  | [], [] => true
  | x :: xs, y :: ys => sameC x y && sameL xs ys
  | _, _ => false
def sameA : AV → AV → Bool
  | .agg xs, .agg ys => sameL xs ys
  | x, y => sameC x y
mutual
/-- A key that is compared by what it is. -/
def keyA : EqK → AV → Bool
  | .b, .bool _ => true
  | .i, .int _ _ => true
  | .s, .str _ => true
  | .st fs, .agg cs => keyFs fs cs
  | _, _ => false
def keyFs : List (Nat × Nat × EqK) → List AV → Bool
  | [], _ => true
  | (o, n, k) :: r, cs => (match partK k cs o n with
    | some x => keyA k x
    | none => false) && keyFs r cs
end

def opRun (call : FuncId → List AV → A AV) (ts : List AV) : AOp → A AV
  | .mov x => A.ret (x.ev ts)
  | .pick c a b => match c.ev ts with
    | .bool true => A.ret (a.ev ts)
    | .bool false => A.ret (b.ev ts)
    | _ => A.fail
  | .alloc ty sz z => A.bind (newBlk ty sz false z) fun b => A.ret (.ptr b 0)
  | .box ty sz x => A.bind (newBlk ty sz false (x.ev ts).cells) fun b => A.ret (.ptr b 0)
  | .build z ps => A.ofOpt ((fillA z (ps.map fun (o, n, x) => (o, n, x.ev ts))).map .agg)
  | .bslice ty sz len z ps => A.bind (A.ofOpt (fillA (reps len z) (ps.map fun (o, n, x) => (o, n, x.ev ts)))) fun cs =>
      A.bind (newBlk ty sz false cs) fun b => A.ret (.slc b 0 len (some len))
  | .load n a => match a.ev ts with
    | .ptr b o => A.bind (rdBlk b) fun k => A.ofOpt (partA k.cells o n)
    | _ => A.fail
  | .store n a x => match a.ev ts with
    | .ptr b o => match Nat.beq (x.ev ts).cells.length n && (x.ev ts).cells.all AV.one with
      | true => A.bind (rdBlk b) fun k => match Nat.ble (o + n) k.cells.length with
        | true => A.bind (wrBlk b (lay k.cells o (x.ev ts).cells)) fun _ => A.ret (.tup [])
        | false => A.fail
      | false => A.fail
    | _ => A.fail
  | .nilc x => match x.ev ts with
    | .ptr b o => A.ret (.ptr b o)
    | .ifc t v => A.ret (.ifc t v)
    | .fn f fs cs => match Nat.beq f 4294967295 with
      | true => A.fail
      | false => A.ret (.fn f fs cs)
    | _ => A.fail
  | .bin op x y => A.ofOpt (abin op (x.ev ts) (y.ev ts))
  | .eq neg k x y => A.ofOpt ((eqA k (x.ev ts) (y.ev ts)).map fun r => .bool (neg != r))
  | .not x => match x.ev ts with
    | .bool b => A.ret (.bool !b)
    | _ => A.fail
  | .un op x => match op, x.ev ts with
    | .neg, .int k n => A.ret (.int k (k.wrap (0 - n)))
    | .xor, .int k n => A.ret (.int k (Go.bits .xor k (if k.signed then -1 else k.max) n))
    | _, _ => A.fail
  | .conv k x => match x.ev ts with
    | .int _ n => A.ret (.int k (k.wrap n))
    | _ => A.fail
  | .faddr d x => match x.ev ts with
    | .ptr b o => A.ret (.ptr b (o + d))
    | _ => A.fail
  | .fld o n x => match x.ev ts with
    | .agg cs => A.ofOpt (partA cs o n)
    | _ => A.fail
  | .iarr len sz x i => match x.ev ts, i.ev ts with
    | .ptr b o, .int _ i => A.ofOpt ((toN len i).map fun i => .ptr b (o + i * sz))
    | _, _ => A.fail
  | .islc sz x i => match x.ev ts, i.ev ts with
    | .slc b o n _, .int _ i => A.ofOpt ((toN n i).map fun i => .ptr b (o + i * sz))
    | _, _ => A.fail
  | .ixa len sz n x i => match x.ev ts, i.ev ts with
    | .agg cs, .int _ i => match toN len i with
      | some i => A.ofOpt (partA cs (i * sz) n)
      | none => A.fail
    | _, _ => A.fail
  | .ixs x i => match x.ev ts, i.ev ts with
    | .str s, .int _ i => match toN s.size i with
      | some i => A.ofOpt ((s.data.toList[i]?).map fun b => .int .u8 b.toNat)
      | none => A.fail
    | _, _ => A.fail
  | .ext x i => match x.ev ts with
    | .tup vs => A.ofOpt vs[i]?
    | _ => A.fail
  | .len true x => match x.ev ts with
    | .str s => A.ret (.int .i64 s.size)
    | _ => A.fail
  | .len false x => match x.ev ts with
    | .slc _ _ n _ => A.ret (.int .i64 n)
    | .nils => A.ret (.int .i64 0)
    | _ => A.fail
  | .lenc n => A.ret (.int .i64 n)
  | .mn xs => A.ofOpt (minI (xs.map (·.ev ts)))
  | .mx xs => A.ofOpt (maxI (xs.map (·.ev ts)))
  | .app ty sz bytes s x => match lenA (x.ev ts) with
    | some n => A.bind (rdEls sz n (x.ev ts)) fun xs => appA ty sz bytes n (s.ev ts) xs
    | none => A.fail
  | .appz ty sz bytes z s x => match x.ev ts with
    | .int _ n => match toN 281474976710656 n with
      | some n => match Nat.ble (n * bytes) 281474976710656 with
        | true => appA ty sz bytes n (s.ev ts) (reps n z)
        | false => A.fail
      | none => A.fail
    | _ => A.fail
  | .slstr x lo hi => match x.ev ts with
    | .str s => match bnd s.size s.size (hi.map (·.ev ts)) with
      | some h => match bnd 0 h (lo.map (·.ev ts)) with
        | some l => A.ret (.str (s.extract l h))
        | none => A.fail
      | none => A.fail
    | _ => A.fail
  | .slice sz x lo hi mx => match x.ev ts with
    | .nils => match bnd 0 0 (mx.map (·.ev ts)) with
      | some m => match bnd 0 m (hi.map (·.ev ts)) with
        | some h => match bnd 0 h (lo.map (·.ev ts)) with
          | some _ => A.ret .nils
          | none => A.fail
        | none => A.fail
      | none => A.fail
    | .slc b o n (some c) => match bnd c c (mx.map (·.ev ts)) with
      | some m => match bnd n m (hi.map (·.ev ts)) with
        | some h => match bnd 0 h (lo.map (·.ev ts)) with
          | some l => A.ret (.slc b (o + l * sz) (h - l) (some (m - l)))
          | none => A.fail
        | none => A.fail
      | none => A.fail
    | .slc b o n none => A.bind (rdBlk b) fun k => match k.grow && Nat.blt 0 sz && Nat.beq k.sz sz with
        | false => A.fail
        | true => match mx with
          | some x => match bnd 0 ((k.cells.length - o) / sz) (some (x.ev ts)) with
            | some m => match bnd n m (hi.map (·.ev ts)) with
              | some h => match bnd 0 h (lo.map (·.ev ts)) with
                | some l => A.ret (.slc b (o + l * sz) (h - l) (some (m - l)))
                | none => A.fail
              | none => A.fail
            | none => A.fail
          | none => match bnd n ((k.cells.length - o) / sz) (hi.map (·.ev ts)) with
            | some h => match bnd 0 h (lo.map (·.ev ts)) with
              | some l => A.ret (.slc b (o + l * sz) (h - l) none)
              | none => A.fail
            | none => A.fail
    | _ => A.fail
  | .slarr len sz x lo hi mx => match x.ev ts with
    | .ptr b o => match bnd len len (mx.map (·.ev ts)) with
      | some m => match bnd len m (hi.map (·.ev ts)) with
        | some h => match bnd 0 h (lo.map (·.ev ts)) with
          | some l => A.ret (.slc b (o + l * sz) (h - l) (some (m - l)))
          | none => A.fail
        | none => A.fail
      | none => A.fail
    | _ => A.fail
  | .mksl ty sz bytes z l c => match l.ev ts, c.ev ts with
    | .int _ l, .int _ c => match toNle (2 ^ 46) c with
      | some c => match toNle c l with
        | some l => match Nat.ble (bytes * c) (2 ^ 46) with
          | true => A.bind (newBlk ty sz false (reps c z)) fun b => A.ret (.slc b 0 l (some c))
          | false => A.fail
        | none => A.fail
      | none => A.fail
    | _, _ => A.fail
  | .copy sz d s => match lenA (d.ev ts), lenA (s.ev ts) with
    | some dn, some sn => A.bind (rdEls sz (min sn dn) (s.ev ts)) fun xs =>
      match d.ev ts with
      | .slc b o _ _ => A.bind (rdBlk b) fun k => match Nat.ble (o + min sn dn * sz) k.cells.length && xs.all AV.one with
        | true => A.bind (wrBlk b (lay k.cells o xs)) fun _ => A.ret (.int .i64 ((min sn dn : Nat) : Int))
        | false => A.fail
      | .nils => A.ret (.int .i64 0)
      | _ => A.fail
    | _, _ => A.fail
  | .call f xs => call f (xs.map (·.ev ts))
  | .mki t x => A.ret (.ifc t (x.ev ts))
  | .mkf f fs xs => A.ret (.fn f (fs.map (·.ev ts)) (xs.map (·.ev ts)))
  | .callv x xs => match x.ev ts with
    | .fn f fs cs => match Nat.beq f 4294967295 with
      | true => A.fail
      | false => call f (fs ++ xs.map (·.ev ts) ++ cs)
    | _ => A.fail
  | .inv rows x xs => match x.ev ts with
    | .ifc t v => match rowA rows t with
      | some (none, f) => call f (v :: xs.map (·.ev ts))
      | some (some d, f) => match v with
        | .ptr b o => A.bind (rdBlk b) fun k => match k.cells[o + d]? with
          | some u => call f (u :: xs.map (·.ev ts))
          | none => A.fail
        | _ => A.fail
      | none => A.fail
    | _ => A.fail
  | .capn x => match x.ev ts with
    | .slc _ _ _ (some c) => A.ret (.int .i64 c)
    | .nils => A.ret (.int .i64 0)
    | _ => A.fail
  | .i2s x => match x.ev ts with
    | .int _ n => A.ret (.str (Utf8.encode n))
    | _ => A.fail
  | .b2s x => match x.ev ts with
    | .nils => A.ret (.str .empty)
    | .slc b o n _ => A.bind (rdBlk b) fun k => match sub k.cells o n with
      | some cs => A.ofOpt ((bytesA cs .empty).map .str)
      | none => A.fail
    | _ => A.fail
  | .nilq rows x => match x.ev ts with
    | .fn f fs cs => match Nat.beq f 4294967295 with
      | false => A.ret (.fn f fs cs)
      | true => match fs with
        | [.ifc t v] => match rowA rows t, v with
          | some (none, _), _ => A.ret (.fn f fs cs)
          | some (some _, _), .ptr _ _ => A.ret (.fn f fs cs)
          | _, _ => A.fail
        | _ => A.fail
    | _ => A.fail
  | .cnt x y => match x.ev ts, y.ev ts with
    | .str s, .int .u8 c => A.ret (.int .i64 ((s.data.toList.count c.toNat.toUInt8 : Nat) : Int))
    | _, _ => A.fail
  | .mkm => A.bind (newBlk 0 0 false [.int .i64 0]) fun b => A.ret (.map b)
  | .mlen x => match x.ev ts with
    | .nilm => A.ret (.int .i64 0)
    | .map b => A.bind (rdBlk b) fun k => A.ret (.int .i64 ((k.cells.length / 3 : Nat) : Int))
    | _ => A.fail
  | .mget q z ok x i => match keyA q (i.ev ts) with
    | false => A.fail
    | true => match x.ev ts with
      | .nilm => A.ret (okA ok z false)
      | .map b => A.bind (rdBlk b) fun k => match findA q (i.ev ts) (k.cells.drop 1) 0 with
        | some (some (_, v)) => A.ret (okA ok v true)
        | some none => A.ret (okA ok z false)
        | none => A.fail
      | _ => A.fail
  | .mput q x i v => match keyA q (i.ev ts) with
    | false => A.fail
    | true => match x.ev ts with
      | .map b => A.bind (rdBlk b) fun k => match findA q (i.ev ts) (k.cells.drop 1) 0 with
        | some (some (j, _)) => match sameA (k.cells.getD (j + 1) .nilm) (i.ev ts) with
          | true => A.bind (wrMap b (k.cells.set (j + 2) (v.ev ts))) fun _ => A.ret (.tup [])
          | false => A.fail
        | some none => match clockA k.cells with
          | some c => A.bind (wrMap b (.int .i64 (c + 1) :: (k.cells.drop 1 ++ [i.ev ts, v.ev ts, .int .i64 c]))) fun _ => A.ret (.tup [])
          | none => A.fail
        | none => A.fail
      | _ => A.fail
  | .mdel q x i => match keyA q (i.ev ts) with
    | false => A.fail
    | true => match x.ev ts with
      | .nilm => A.ret (.tup [])
      | .map b => A.bind (rdBlk b) fun k => match findA q (i.ev ts) (k.cells.drop 1) 0 with
        | some (some (j, _)) => A.bind (wrMap b (k.cells.take (j + 1) ++ k.cells.drop (j + 4))) fun _ => A.ret (.tup [])
        | some none => A.ret (.tup [])
        | none => A.fail
      | _ => A.fail
  | .ment q z x i => match keyA q (i.ev ts) with
    | false => A.fail
    | true => match x.ev ts with
      | .map b => A.bind (rdBlk b) fun k => match findA q (i.ev ts) (k.cells.drop 1) 0 with
        | some (some (j, v)) => match sameA (k.cells.getD (j + 1) .nilm) (i.ev ts) with
          | true => match k.cells[j + 3]? with
            | some s => A.bind (wrMap b k.cells) fun _ => A.ret (.tup [v, s])
            | none => A.fail
          | false => A.fail
        | some none => match clockA k.cells with
          | some c => A.bind (wrMap b (.int .i64 (c + 1) :: (k.cells.drop 1 ++ [i.ev ts, z, .int .i64 c]))) fun _ => A.ret (.tup [z, .int .i64 c])
          | none => A.fail
        | none => A.fail
      | _ => A.fail
  | .mest x s v => match x.ev ts, s.ev ts with
    | .map b, .int _ n => A.bind (rdBlk b) fun k => match findS n (k.cells.drop 1) 0 with
      | some j => A.bind (wrMap b (k.cells.set (j + 2) (v.ev ts))) fun _ => A.ret (.tup [])
      | none => A.fail
    | _, _ => A.fail
  | .bad => A.fail

/-! ### Code -/
structure AR where
  dst : Option Nat
  guard : Option (Nat × Bool)
  op : AOp

inductive AC where
  | skip
  | reg (ops : List AR) (draw : Bool) (bef : List Nat)
  | seq (a b : AC)
  | cond (c : X) (a b : AC)
  | blk (id : Nat) (c : AC)
  | loop (c : AC)
  | exit (id : Nat)
  | ret

inductive ARes where
  | tmp (i : Nat)
  | cell (i : Nat) (n : Option Nat)

structure AF where
  nt : Nat
  res : List ARes
  body : AC

inductive Ex where
  | nor
  | exit (id : Nat)
  | ret

def putT (ts : List AV) (d : Option Nat) (v : AV) : List AV :=
  match d with
  | some i => ts.set i v
  | none => ts

def wantA (ts : List AV) : Option (Nat × Bool) → Bool
  | none => true
  | some (t, w) => match ts.getD t (.tup []) with
    | .bool b => b == w
    | _ => false

def stepR (call : FuncId → List AV → A AV) (ts : List AV) (r : AR) : A AV :=
  match wantA ts r.guard with
  | true => opRun call ts r.op
  | false => A.ret (.tup [])

/-- The operations of a region in the order of the text. -/
def regRun (call : FuncId → List AV → A AV) : List AR → List AV → A (List AV)
  | [], ts => A.ret ts
  | r :: rest, ts => A.bind (stepR call ts r) fun v => regRun call rest (putT ts r.dst v)

/-- The same where the order is open: what each has touched and written, beside. -/
def regLog (call : FuncId → List AV → A AV) : List AR → List AV → Mem → Nat → Option (Rs (List AV) × List (Nat × Nat))
  | [], ts, h, n => some (⟨ts, h, n, 0, 0⟩, [])
  | r :: rest, ts, h, n => match stepR call ts r h n n with
    | none => none
    | some s => match regLog call rest (putT ts r.dst s.v) s.h s.nx with
      | none => none
      | some (q, l) => some (⟨q.v, q.h, q.nx, s.tc ||| q.tc, s.wr ||| q.wr⟩, (s.tc ||| (2 ^ s.nx - 2 ^ n), s.wr ||| (2 ^ s.nx - 2 ^ n)) :: l)

/-- Do two operations that may be exchanged touch nothing that the other writes? b: which come before the later one. -/
def apartFrom (b : Nat) (tw : Nat × Nat) : Nat → List (Nat × Nat) → Bool
  | _, [] => true
  | i, (t, w) :: r => (Nat.testBit b i || (Nat.beq (w &&& tw.1) 0 && Nat.beq (t &&& tw.2) 0)) && apartFrom b tw (i + 1) r
def allApart : List (Nat × Nat) → List Nat → List (Nat × Nat) → Bool
  | _, _, [] => true
  | done, b :: bs, x :: r => apartFrom b x 0 done && allApart (done ++ [x]) bs r
  | _, [], _ :: _ => false

def lowBits (lg m : Nat) : Nat := m % 2 ^ lg

def regDraw (call : FuncId → List AV → A AV) (rs : List AR) (bef : List Nat) (ts : List AV) : A (List AV) := fun h n lg =>
  match regLog call rs ts h n with
  | none => none
  | some (q, l) => match allApart [] bef l with
    | true => some ⟨q.v, q.h, q.nx, lowBits lg q.tc, lowBits lg q.wr⟩
    | false => none

def resA (ts : List AV) : ARes → A AV
  | .tmp i => A.ret (ts.getD i (.tup []))
  | .cell i n => match ts.getD i (.tup []) with
    | .ptr b o => A.bind (rdBlk b) fun k => A.ofOpt (partA k.cells o n)
    | _ => A.fail
def resAll (ts : List AV) : List ARes → A (List AV)
  | [] => A.ret []
  | r :: rs => A.bind (resA ts r) fun v => A.bind (resAll ts rs) fun vs => A.ret (v :: vs)
def oneOf : List AV → AV
  | [v] => v
  | vs => .tup vs

def xC (T : FuncId → Option AF) : Nat → AC → List AV → A (Ex × List AV)
  | 0, _, _ => A.fail
  | _ + 1, .skip, ts => A.ret (.nor, ts)
  | n + 1, .reg rs dr bef, ts =>
    let call : FuncId → List AV → A AV := fun f args => match T f with
      | none => A.fail
      | some F => A.bind (xC T n F.body (args ++ List.replicate (F.nt - args.length) (.tup []))) fun r => match r.1 with
        | .exit _ => A.fail
        | _ => A.bind (resAll r.2 F.res) fun vs => A.ret (oneOf vs)
    match dr with
    | false => A.bind (regRun call rs ts) fun ts => A.ret (.nor, ts)
    | true => A.bind (regDraw call rs bef ts) fun ts => A.ret (.nor, ts)
  | n + 1, .seq a b, ts => A.bind (xC T n a ts) fun r => match r.1 with
    | .nor => xC T n b r.2
    | _ => A.ret r
  | n + 1, .cond c a b, ts => match c.ev ts with
    | .bool true => xC T n a ts
    | .bool false => xC T n b ts
    | _ => A.fail
  | n + 1, .blk id c, ts => A.bind (xC T n c ts) fun r => match r.1 with
    | .exit i => match Nat.beq i id with
      | true => A.ret (.nor, r.2)
      | false => A.ret r
    | _ => A.ret r
  | n + 1, .loop c, ts => A.bind (xC T n c ts) fun r => match r.1 with
    | .nor => xC T n (.loop c) r.2
    | _ => A.ret r
  | _ + 1, .exit id, ts => A.ret (.exit id, ts)
  | _ + 1, .ret, ts => A.ret (.ret, ts)

/-- A function is called. -/
def xF (T : FuncId → Option AF) (n : Nat) (f : FuncId) (args : List AV) : A AV := match T f with
  | none => A.fail
  | some F => A.bind (xC T n F.body (args ++ List.replicate (F.nt - args.length) (.tup []))) fun r => match r.1 with
    | .exit _ => A.fail
    | _ => A.bind (resAll r.2 F.res) fun vs => A.ret (oneOf vs)

end Go.Proofs.YtamfoplfbidolaaGreatDoorE

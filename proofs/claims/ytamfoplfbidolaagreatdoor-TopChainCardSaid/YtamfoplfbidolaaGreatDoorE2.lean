/- The engine, part 2: what an abstract memory says of a world, and how the two go on together. -/
import Derived.Test.YtamfoplfbidolaaGreatDoorE1
import Derived.Below
import Derived.Laws.CopyRow
namespace Go.Proofs.YtamfoplfbidolaaGreatDoorE
open Go Go.RowKit
set_option linter.unusedVariables false
set_option linter.unusedSimpArgs false

/-- Where a block lies: in a block of the world, from a cell on, so many; how many cells an element of it has. -/
structure Loc where
  blk : Nat
  base : Nat
  n : Nat
  sz : Nat
  /-- a map's -/
  mp : Bool

abbrev Mp := Nat → Option Loc
def Mp.up (m : Mp) (n : Nat) (l : Loc) : Mp := fun b => if b = n then some l else m b
def Mp.le (m m' : Mp) : Prop := ∀ b l, m b = some l → m' b = some l
theorem Mp.le_refl (m : Mp) : m.le m := fun _ _ h => h
theorem Mp.le_trans {a b c : Mp} (h : a.le b) (k : b.le c) : a.le c := fun x l e => k x l (h x l e)
theorem Mp.le_up (m : Mp) (n : Nat) (l : Loc) (h : m n = none ∨ m n = some l) : m.le (m.up n l) := fun b k e => by
  unfold Mp.up
  split
  · rename_i hb; subst hb; rcases h with h | h <;> rw [h] at e <;> simp_all
  · exact e
theorem Mp.up_same (m : Mp) (n : Nat) (l : Loc) (h : m n = some l) : m.up n l = m := by
  funext b; unfold Mp.up; split
  · rename_i e; subst e; exact h.symm
  · rfl

/-- The function of a number; one number stands for the method whose value is only asked whether it is nil. -/
def fnOf (f : FuncId) : Fn := match Nat.beq f 4294967295 with
  | true => .method "Put"
  | false => .func f
theorem fnOf_f {f : FuncId} (h : Nat.beq f 4294967295 = false) : fnOf f = .func f := by unfold fnOf; rw [h]
mutual
def VR (m : Mp) : AV → Value → Prop
  | .bool b, v => v = .bool b
  | .int k n, v => v = .int k n
  | .str s, v => v = .string s
  | .ptr b o, v => ∃ l, m b = some l ∧ l.mp = false ∧ v = .pointer (some ⟨l.blk, l.base + o, none⟩)
  | .null, v => v = .pointer none
  | .slc b o n c, v => ∃ l a cc, m b = some l ∧ l.mp = false ∧ v = .slice (some a) n cc ∧ n ≤ cc ∧ (cc = 0 ∨ a = ⟨l.blk, l.base + o, none⟩) ∧ (match c with | some c' => cc = c' | none => o + cc * l.sz = l.n)
  | .nils, v => v = .slice none 0 0
  | .ifc t x, v => ∃ y, v = .iface t y ∧ VR m x y
  | .nili, v => v = .nilIface
  | .fn f fs cs, v => ∃ zs ys : List Value, v = .func (fnOf f) zs.toArray ys.toArray ∧ VRs m fs zs ∧ VRs m cs ys
  | .nilf, v => v = .nilFunc
  | .agg cs, v => ∃ ys : List Value, v = .agg ys.toArray ∧ VRs m cs ys
  | .tup cs, v => ∃ ys : List Value, v = .tuple ys.toArray ∧ VRs m cs ys
  | .map b, v => ∃ l, m b = some l ∧ l.mp = true ∧ v = .map (some l.blk)
  | .nilm, v => v = .map none
def VRs (m : Mp) : List AV → List Value → Prop
  | [], ys => ys = []
  | x :: xs, ys => ∃ y zs, ys = y :: zs ∧ VR m x y ∧ VRs m xs zs
end

mutual
theorem VR.mono {m m' : Mp} (h : m.le m') : ∀ (x : AV) (v : Value), VR m x v → VR m' x v
  | .bool b, v, e => by simpa [VR] using e
  | .int k n, v, e => by simpa [VR] using e
  | .str s, v, e => by simpa [VR] using e
  | .ptr b o, v, e => by
    simp only [VR] at e ⊢
    obtain ⟨l, hl, e⟩ := e
    exact ⟨l, h _ _ hl, e⟩
  | .null, v, e => by simpa [VR] using e
  | .slc b o n c, v, e => by
    simp only [VR] at e ⊢
    obtain ⟨l, a, cc, hl, e⟩ := e
    exact ⟨l, a, cc, h _ _ hl, e⟩
  | .nils, v, e => by simpa [VR] using e
  | .ifc t x, v, e => by
    simp only [VR] at e ⊢
    obtain ⟨y, e, r⟩ := e
    exact ⟨y, e, VR.mono h x y r⟩
  | .nili, v, e => by simpa [VR] using e
  | .fn f fs cs, v, e => by
    simp only [VR] at e ⊢
    obtain ⟨z, y, e, q, r⟩ := e
    exact ⟨z, y, e, VRs.mono h fs z q, VRs.mono h cs y r⟩
  | .nilf, v, e => by simpa [VR] using e
  | .agg cs, v, e => by
    simp only [VR] at e ⊢
    obtain ⟨y, e, r⟩ := e
    exact ⟨y, e, VRs.mono h cs y r⟩
  | .tup cs, v, e => by
    simp only [VR] at e ⊢
    obtain ⟨y, e, r⟩ := e
    exact ⟨y, e, VRs.mono h cs y r⟩
  | .map b, v, e => by
    simp only [VR] at e ⊢
    obtain ⟨l, hl, e⟩ := e
    exact ⟨l, h _ _ hl, e⟩
  | .nilm, v, e => by simpa [VR] using e
theorem VRs.mono {m m' : Mp} (h : m.le m') : ∀ (xs : List AV) (vs : List Value), VRs m xs vs → VRs m' xs vs
  | [], vs, e => by simpa [VRs] using e
  | x :: xs, vs, e => by
    simp only [VRs] at e ⊢
    obtain ⟨y, zs, e, r, s⟩ := e
    exact ⟨y, zs, e, VR.mono h x y r, VRs.mono h xs zs s⟩
end

theorem VRs.cons_iff {m : Mp} {x : AV} {xs : List AV} {y : Value} {ys : List Value} : VRs m (x :: xs) (y :: ys) ↔ VR m x y ∧ VRs m xs ys := by
  simp only [VRs]
  constructor
  · rintro ⟨_, _, e, a, b⟩; cases e; exact ⟨a, b⟩
  · rintro ⟨a, b⟩; exact ⟨y, ys, rfl, a, b⟩
theorem VRs.nil_iff {m : Mp} {ys : List Value} : VRs m [] ys ↔ ys = [] := by simp [VRs]
theorem VRs.nil {m : Mp} : VRs m [] [] := by simp [VRs]

theorem VRs.length {m : Mp} : ∀ {xs : List AV} {ys : List Value}, VRs m xs ys → ys.length = xs.length
  | [], ys, h => by rw [VRs.nil_iff.1 h]; rfl
  | x :: xs, ys, h => by
    simp only [VRs] at h
    obtain ⟨y, zs, rfl, _, r⟩ := h
    simp [VRs.length r]

theorem VRs.get {m : Mp} : ∀ {xs : List AV} {ys : List Value} {i : Nat} {x : AV}, VRs m xs ys → xs[i]? = some x → ∃ y, ys[i]? = some y ∧ VR m x y
  | [], _, _, _, _, e => by simp at e
  | x :: xs, ys, i, z, h, e => by
    simp only [VRs] at h
    obtain ⟨y, zs, rfl, hx, r⟩ := h
    cases i with
    | zero => simp at e; subst e; exact ⟨y, by simp, hx⟩
    | succ i => simp at e; simpa using VRs.get r e

theorem VRs.append {m : Mp} : ∀ {xs : List AV} {ys : List Value} {xs' : List AV} {ys' : List Value}, VRs m xs ys → VRs m xs' ys' → VRs m (xs ++ xs') (ys ++ ys')
  | [], ys, _, _, h, k => by rw [VRs.nil_iff.1 h]; simpa using k
  | x :: xs, ys, _, _, h, k => by
    simp only [VRs] at h
    obtain ⟨y, zs, rfl, hx, r⟩ := h
    exact VRs.cons_iff.2 ⟨hx, VRs.append r k⟩

theorem VRs.take {m : Mp} : ∀ {xs : List AV} {ys : List Value} (n : Nat), VRs m xs ys → VRs m (xs.take n) (ys.take n)
  | [], ys, n, h => by rw [VRs.nil_iff.1 h]; simp [VRs]
  | x :: xs, ys, n, h => by
    simp only [VRs] at h
    obtain ⟨y, zs, rfl, hx, r⟩ := h
    cases n with
    | zero => simp [VRs]
    | succ n => exact VRs.cons_iff.2 ⟨hx, VRs.take n r⟩

theorem VRs.drop {m : Mp} : ∀ {xs : List AV} {ys : List Value} (n : Nat), VRs m xs ys → VRs m (xs.drop n) (ys.drop n)
  | [], ys, n, h => by rw [VRs.nil_iff.1 h]; simp [VRs]
  | x :: xs, ys, n, h => by
    cases n with
    | zero => simpa using h
    | succ n =>
      simp only [VRs] at h
      obtain ⟨y, zs, rfl, hx, r⟩ := h
      simpa using VRs.drop n r

theorem VRs.set {m : Mp} {v : AV} {u : Value} (hv : VR m v u) : ∀ {xs : List AV} {ys : List Value} (n : Nat), VRs m xs ys → VRs m (xs.set n v) (ys.set n u)
  | [], ys, n, h => by rw [VRs.nil_iff.1 h]; simp [VRs]
  | x :: xs, ys, n, h => by
    simp only [VRs] at h
    obtain ⟨y, zs, rfl, hx, r⟩ := h
    cases n with
    | zero => exact VRs.cons_iff.2 ⟨hv, r⟩
    | succ n => exact VRs.cons_iff.2 ⟨hx, VRs.set hv n r⟩

theorem VRs.replicate {m : Mp} {v : AV} {u : Value} (hv : VR m v u) : ∀ n, VRs m (List.replicate n v) (List.replicate n u)
  | 0 => VRs.nil
  | n + 1 => VRs.cons_iff.2 ⟨hv, VRs.replicate hv n⟩

theorem VRs.reps {m : Mp} {z : List AV} {y : List Value} (hv : VRs m z y) : ∀ n, VRs m (reps n z) (reps n y)
  | 0 => VRs.nil
  | n + 1 => VRs.append hv (VRs.reps hv n)

theorem sub_some {α : Type} {cs r : List α} {o n : Nat} (h : sub cs o n = some r) : o + n ≤ cs.length ∧ r = (cs.drop o).take n := by
  unfold sub at h
  cases hb : Nat.ble (o + n) cs.length <;> rw [hb] at h
  · cases h
  · exact ⟨Nat.le_of_ble_eq_true hb, by cases h; rfl⟩

/-- The cells of a value. -/
theorem VR.cells {m : Mp} {x : AV} {v : Value} (h : VR m x v) : VRs m x.cells v.cells.toList := by
  cases x <;> simp only [VR] at h
  case agg cs => obtain ⟨ys, rfl, r⟩ := h; simpa [AV.cells, Value.cells] using r
  case ptr b o => obtain ⟨l, hl, hm, rfl⟩ := h; exact VRs.cons_iff.2 ⟨by simp only [VR]; exact ⟨l, hl, hm, rfl⟩, VRs.nil⟩
  case map b => obtain ⟨l, hl, hm, rfl⟩ := h; exact VRs.cons_iff.2 ⟨by simp only [VR]; exact ⟨l, hl, hm, rfl⟩, VRs.nil⟩
  case slc b o n c => obtain ⟨l, a, cc, hl, hm, rfl, r⟩ := h; exact VRs.cons_iff.2 ⟨by simp only [VR]; exact ⟨l, a, cc, hl, hm, rfl, r⟩, VRs.nil⟩
  case ifc t x => obtain ⟨y, rfl, r⟩ := h; exact VRs.cons_iff.2 ⟨by simp only [VR]; exact ⟨y, rfl, r⟩, VRs.nil⟩
  case fn t z x => obtain ⟨z, y, rfl, q, r⟩ := h; exact VRs.cons_iff.2 ⟨by simp only [VR]; exact ⟨z, y, rfl, q, r⟩, VRs.nil⟩
  case tup cs => obtain ⟨y, rfl, r⟩ := h; exact VRs.cons_iff.2 ⟨by simp only [VR]; exact ⟨y, rfl, r⟩, VRs.nil⟩
  all_goals (subst h; exact VRs.cons_iff.2 ⟨by simp only [VR], VRs.nil⟩)

theorem VR.one {m : Mp} {x : AV} {v : Value} (h : VR m x v) (h1 : x.one = true) : v.oneCell' = true := by
  cases x <;> simp only [VR] at h <;> simp [AV.one] at h1
  case ptr b o => obtain ⟨l, hl, hm, rfl⟩ := h; rfl
  case map b => obtain ⟨l, hl, hm, rfl⟩ := h; rfl
  case slc b o n c => obtain ⟨l, a, cc, hl, hm, rfl, r⟩ := h; rfl
  case ifc t x => obtain ⟨y, rfl, r⟩ := h; rfl
  case fn t z x => obtain ⟨z, y, rfl, q, r⟩ := h; rfl
  all_goals (subst h; rfl)
theorem VRs.one {m : Mp} : ∀ {xs : List AV} {vs : List Value}, VRs m xs vs → xs.all AV.one = true → ∀ v ∈ vs, v.oneCell' = true
  | [], vs, h, _ => by rw [VRs.nil_iff.1 h]; simp
  | x :: xs, vs, h, h1 => by
    simp only [VRs] at h
    obtain ⟨y, zs, rfl, hx, r⟩ := h
    simp only [List.all_cons, Bool.and_eq_true] at h1
    intro v hv
    rcases List.mem_cons.1 hv with rfl | hv
    · exact hx.one h1.1
    · exact VRs.one r h1.2 v hv

/-! ### Memory -/
structure HeldC (m : Mp) (B : Nat) (w : World) (k : Blk) (l : Loc) : Prop where
  ex : ∃ c t fz, w.heap[l.blk]? = some (.cells c t fz) ∧ l.base + l.n ≤ c.size ∧ (k.own = true → fz = (0, 0)) ∧
    ∃ us, VRs m k.cells us ∧ ∀ j, j < us.length → c[l.base + j]? = us[j]?
  fit : k.cells.length ≤ l.n
  own : k.own = true → B ≤ l.blk
  sz : k.grow = true → l.sz = k.sz
/-- Keys, values and stamps in turn. -/
def kvs : List MapEntry → List Value
  | [] => []
  | e :: es => e.key :: e.val :: .int .i64 e.born :: kvs es
structure HeldM (m : Mp) (B : Nat) (w : World) (k : Blk) (l : Loc) : Prop where
  ex : ∃ es clock, w.heap[l.blk]? = some (.map es clock) ∧ VRs m k.cells (.int .i64 clock :: kvs es.toList)
  own : B ≤ l.blk
  ow : k.own = true
  gr : k.grow = false
def Held (m : Mp) (B : Nat) (w : World) (k : Blk) (l : Loc) : Prop := match l.mp with
  | false => HeldC m B w k l
  | true => HeldM m B w k l
theorem Held.c {m : Mp} {B : Nat} {w : World} {k : Blk} {l : Loc} (h : Held m B w k l) (hm : l.mp = false) : HeldC m B w k l := by unfold Held at h; rw [hm] at h; exact h
theorem Held.m {m : Mp} {B : Nat} {w : World} {k : Blk} {l : Loc} (h : Held m B w k l) (hm : l.mp = true) : HeldM m B w k l := by unfold Held at h; rw [hm] at h; exact h
theorem HeldC.h {m : Mp} {B : Nat} {w : World} {k : Blk} {l : Loc} (h : HeldC m B w k l) (hm : l.mp = false) : Held m B w k l := by unfold Held; rw [hm]; exact h
theorem HeldM.h {m : Mp} {B : Nat} {w : World} {k : Blk} {l : Loc} (h : HeldM m B w k l) (hm : l.mp = true) : Held m B w k l := by unfold Held; rw [hm]; exact h

structure HR (B : Nat) (m : Mp) (h : Mem) (w : World) : Prop where
  base : B ≤ w.heap.size
  held : ∀ b k, h.blk b = some k → ∃ l, m b = some l ∧ Held m B w k l
  sep : ∀ b b' k k' l l', b ≠ b' → h.blk b = some k → k.own = true → h.blk b' = some k' → m b = some l → m b' = some l' → l.blk ≠ l'.blk

theorem Held.mono {m m' : Mp} {B : Nat} {w : World} {k : Blk} {l : Loc} (h : Held m B w k l) (hm : m.le m') : Held m' B w k l := by
  cases hp : l.mp with
  | false =>
    obtain ⟨⟨c, t, fz, h1, h2, h3, us, h4, h5⟩, fit, own, sz⟩ := h.c hp
    exact HeldC.h ⟨⟨c, t, fz, h1, h2, h3, us, VRs.mono hm _ _ h4, h5⟩, fit, own, sz⟩ hp
  | true =>
    obtain ⟨⟨es, ck, h1, h2⟩, own, ow, gr⟩ := h.m hp
    exact HeldM.h ⟨⟨es, ck, h1, VRs.mono hm _ _ h2⟩, own, ow, gr⟩ hp

theorem Held.same {m : Mp} {B : Nat} {w w' : World} {k : Blk} {l : Loc} (h : Held m B w k l) (e : w'.heap[l.blk]? = w.heap[l.blk]?) : Held m B w' k l := by
  cases hp : l.mp with
  | false =>
    obtain ⟨⟨c, t, fz, h1, h2⟩, fit, own, sz⟩ := h.c hp
    exact HeldC.h ⟨⟨c, t, fz, e.trans h1, h2⟩, fit, own, sz⟩ hp
  | true =>
    obtain ⟨⟨es, ck, h1, h2⟩, own, ow, gr⟩ := h.m hp
    exact HeldM.h ⟨⟨es, ck, e.trans h1, h2⟩, own, ow, gr⟩ hp
theorem Held.lt {m : Mp} {B : Nat} {w : World} {k : Blk} {l : Loc} (h : Held m B w k l) : l.blk < w.heap.size := by
  cases hp : l.mp with
  | false =>
    obtain ⟨⟨c, t, fz, h1, h2⟩, fit, own, sz⟩ := h.c hp
    exact (Array.getElem?_eq_some_iff.1 h1).1
  | true =>
    obtain ⟨⟨es, ck, h1, h2⟩, own, ow, gr⟩ := h.m hp
    exact (Array.getElem?_eq_some_iff.1 h1).1
theorem Held.base {m : Mp} {B : Nat} {w : World} {k : Blk} {l : Loc} (h : Held m B w k l) (ho : k.own = true) : B ≤ l.blk := by
  cases hp : l.mp with
  | false => exact (h.c hp).own ho
  | true => exact (h.m hp).own

theorem HR.heap {B : Nat} {m : Mp} {h : Mem} {w w' : World} (r : HR B m h w) (e : w'.heap = w.heap) : HR B m h w' :=
  ⟨by rw [e]; exact r.base, fun b k hb => by obtain ⟨l, hl, hh⟩ := r.held b k hb; exact ⟨l, hl, hh.same (by rw [e])⟩, r.sep⟩

theorem HR.blk {B : Nat} {m : Mp} {h h' : Mem} {w : World} (r : HR B m h w) (e : ∀ b, h'.blk b = h.blk b) : HR B m h' w :=
  ⟨r.base, fun b k hb => r.held b k (by rw [← e]; exact hb), fun b b' k k' l l' hne hb ho hb' => r.sep b b' k k' l l' hne (by rw [← e]; exact hb) ho (by rw [← e]; exact hb')⟩

theorem HR.lt {B : Nat} {m : Mp} {h : Mem} {w : World} (r : HR B m h w) {b : Nat} {k : Blk} {l : Loc} (hb : h.blk b = some k) (hl : m b = some l) : l.blk < w.heap.size := by
  obtain ⟨l', hl', hh⟩ := r.held b k hb
  rw [hl] at hl'; cases hl'
  exact hh.lt

theorem HR.drop {B : Nat} {m : Mp} {h : Mem} {w : World} (r : HR B m h w) (n : Nat) : HR B m (h.set n none) w := by
  refine ⟨r.base, fun b k hb => ?_, fun b b' k k' l l' hne hb ho hb' => ?_⟩
  · rw [Mem.blk_set] at hb; split at hb
    · cases hb
    · exact r.held b k hb
  · rw [Mem.blk_set] at hb hb'
    split at hb
    · cases hb
    · split at hb'
      · cases hb'
      · exact r.sep b b' k k' l l' hne hb ho hb'

/-- A block that nobody else uses is written. -/
theorem HR.poke {B : Nat} {m : Mp} {h : Mem} {w w' : World} (r : HR B m h w) (g : Nat) (hs : w.heap.size ≤ w'.heap.size) (he : ∀ i, i ≠ g → i < w.heap.size → w'.heap[i]? = w.heap[i]?)
    (hu : ∀ b k l, h.blk b = some k → m b = some l → l.blk ≠ g) : HR B m h w' :=
  ⟨Nat.le_trans r.base hs, fun b k hb => by
    obtain ⟨l, hl, hh⟩ := r.held b k hb
    exact ⟨l, hl, hh.same (he _ (hu b k l hb hl) (r.lt hb hl))⟩, r.sep⟩

/-- A block more, which nobody else uses. -/
theorem HR.add {B : Nat} {m : Mp} {h : Mem} {w : World} (r : HR B m h w) (n : Nat) (k : Blk) (l : Loc) (hn : m n = none ∨ m n = some l) (hh : Held (m.up n l) B w k l)
    (hu : ∀ b k l', b ≠ n → h.blk b = some k → m b = some l' → l'.blk ≠ l.blk) : HR B (m.up n l) (h.set n (some k)) w := by
  have hup : ∀ b, b ≠ n → (m.up n l) b = m b := fun b hb => by unfold Mp.up; rw [if_neg hb]
  have hupn : (m.up n l) n = some l := by unfold Mp.up; rw [if_pos rfl]
  refine ⟨r.base, fun b k' hb => ?_, fun b b' k1 k2 l1 l2 hne hb ho hb' hl1 hl2 => ?_⟩
  · by_cases e : b = n
    · subst e; rw [Mem.blk_set_same] at hb; cases hb; exact ⟨l, hupn, hh⟩
    · rw [Mem.blk_set_ne _ _ _ _ e] at hb
      obtain ⟨l', hl', hh'⟩ := r.held b k' hb
      exact ⟨l', by rw [hup b e]; exact hl', hh'.mono (Mp.le_up m n l hn)⟩
  · by_cases e : b = n
    · subst e
      rw [hupn] at hl1; cases hl1
      have e' : b' ≠ b := Ne.symm hne
      rw [Mem.blk_set_ne _ _ _ _ e'] at hb'
      rw [hup b' e'] at hl2
      exact Ne.symm (hu b' k2 l2 e' hb' hl2)
    · rw [Mem.blk_set_ne _ _ _ _ e] at hb
      rw [hup b e] at hl1
      by_cases e' : b' = n
      · subst e'
        rw [hupn] at hl2; cases hl2
        exact hu b k1 l1 e hb hl1
      · rw [Mem.blk_set_ne _ _ _ _ e'] at hb'
        rw [hup b' e'] at hl2
        exact r.sep b b' k1 k2 l1 l2 hne hb ho hb' hl1 hl2

/-- What was free and is now taken. -/
structure Ext (m m' : Mp) (n n' : Nat) : Prop where
  le : m.le m'
  dom : ∀ b, m' b ≠ none → m b ≠ none ∨ (n ≤ b ∧ b < n')
theorem Ext.refl (m : Mp) (n : Nat) : Ext m m n n := ⟨Mp.le_refl m, fun b h => .inl h⟩
theorem Ext.trans {a b c : Mp} {n n' n'' : Nat} (h : Ext a b n n') (k : Ext b c n' n'') (h1 : n ≤ n') (h2 : n' ≤ n'') : Ext a c n n'' :=
  ⟨Mp.le_trans h.le k.le, fun x hx => by
    rcases k.dom x hx with hx | hx
    · rcases h.dom x hx with hx | hx
      · exact .inl hx
      · exact .inr ⟨hx.1, by omega⟩
    · exact .inr ⟨by omega, hx.2⟩⟩
theorem Ext.up (m : Mp) (n : Nat) (l : Loc) (h : m n = none) : Ext m (m.up n l) n (n + 1) :=
  ⟨Mp.le_up m n l (.inl h), fun b hb => by
    by_cases e : b = n
    · exact .inr (by omega)
    · unfold Mp.up at hb; rw [if_neg e] at hb; exact .inl hb⟩
def Fresh (m : Mp) (n n' : Nat) : Prop := ∀ b, n ≤ b → b < n' → m b = none
theorem Fresh.ext {m m' : Mp} {n n' n'' : Nat} (h : Fresh m n n'') (e : Ext m m' n n') (hn : n ≤ n') : Fresh m' n' n'' := fun b h1 h2 => by
  by_cases hx : m' b = none
  · exact hx
  · rcases e.dom b hx with h3 | h3
    · exact absurd (h b (by omega) h2) h3
    · omega

/-! ### What a world is behind a row that is set -/
theorem setRow_other (w : World) (g : Nat) (cs : Array Value) (i : Nat) (h : i ≠ g) : (w.setRow g cs).heap[i]? = w.heap[i]? := by
  unfold World.setRow; simp only [Array.getElem?_modify]; rw [if_neg (Ne.symm h)]
theorem setRow_size (w : World) (g : Nat) (cs : Array Value) : (w.setRow g cs).heap.size = w.heap.size := by
  unfold World.setRow; simp
theorem setRow_at (w : World) (g : Nat) (cs c : Array Value) (t : TypeId) (fz : Nat × Nat) (h : w.heap[g]? = some (.cells c t fz)) : (w.setRow g cs).heap[g]? = some (.cells cs t fz) := by
  unfold World.setRow; simp [Array.getElem?_modify, h]
theorem Below.setRow {B : Nat} {a w : World} (h : Below B a w) {g : Nat} (hg : B ≤ g) (cs : Array Value) : Below B a (w.setRow g cs) :=
  h.trans ⟨rfl, rfl, rfl, by rw [setRow_size]; exact Nat.le_refl _, fun k hk => setRow_other w g cs k (by omega)⟩

/-! ### Cells that are read and written -/
theorem lay_length {α : Type} {cs xs : List α} {o : Nat} (h : o + xs.length ≤ cs.length) : (lay cs o xs).length = cs.length := by
  unfold lay; simp; omega
theorem lay_get {α : Type} {cs xs : List α} {o : Nat} (h : o + xs.length ≤ cs.length) (j : Nat) :
    (lay cs o xs)[j]? = if j < o then cs[j]? else if j < o + xs.length then xs[j - o]? else cs[j]? := by
  unfold lay
  by_cases h1 : j < o
  · rw [if_pos h1, List.append_assoc, List.getElem?_append_left (by simp; omega), List.getElem?_take, if_pos h1]
  · rw [if_neg h1]
    by_cases h2 : j < o + xs.length
    · rw [if_pos h2, List.append_assoc, List.getElem?_append_right (by simp; omega), List.getElem?_append_left (by simp; omega)]
      congr 1; simp; omega
    · rw [if_neg h2, List.getElem?_append_right (by simp; omega), List.getElem?_drop]
      congr 1; simp; omega
theorem VRs.lay {m : Mp} {cs xs : List AV} {us vs : List Value} {o : Nat} (h : VRs m cs us) (k : VRs m xs vs) : VRs m (lay cs o xs) (lay us o vs) := by
  unfold Go.Proofs.YtamfoplfbidolaaGreatDoorE.lay
  rw [k.length]
  exact VRs.append (VRs.append (h.take o) k) (h.drop _)

theorem add_lit (b o j : Nat) : (⟨b, o, none⟩ : Addr).add j = ⟨b, o + j, none⟩ := by unfold Addr.add; split <;> simp_all
theorem cell_at {w : World} {g : Nat} {c : Array Value} {t : TypeId} {fz : Nat × Nat} (h : w.heap[g]? = some (.cells c t fz)) (o : Nat) : w.cell? ⟨g, o, none⟩ = c[o]? := by
  simp [World.cell?, h]

theorem HeldC.reads {m : Mp} {B : Nat} {w : World} {k : Blk} {l : Loc} (h : HeldC m B w k l) : ∃ us, VRs m k.cells us ∧ ∀ j u, us[j]? = some u → w.cell? ⟨l.blk, l.base + j, none⟩ = some u := by
  obtain ⟨⟨c, t, fz, h1, h2, h3, us, h4, h5⟩, _, _, _⟩ := h
  refine ⟨us, h4, fun j u hu => ?_⟩
  rw [cell_at h1, h5 j (List.getElem?_eq_some_iff.1 hu).1]; exact hu

theorem HeldC.readsSub {m : Mp} {B : Nat} {w : World} {k : Blk} {l : Loc} (h : HeldC m B w k l) {o n : Nat} {r : List AV} (hs : sub k.cells o n = some r) :
    ∃ vs, VRs m r vs ∧ vs.length = n ∧ ∀ j v, vs[j]? = some v → w.cell? ((⟨l.blk, l.base + o, none⟩ : Addr).add j) = some v := by
  obtain ⟨us, hv, hc⟩ := h.reads
  obtain ⟨h1, rfl⟩ := sub_some hs
  have hl := hv.length
  refine ⟨(us.drop o).take n, VRs.take n (VRs.drop o hv), by simp; omega, fun j v e => ?_⟩
  rw [add_lit, Nat.add_assoc]
  refine hc (o + j) v ?_
  rw [List.getElem?_take] at e
  split at e
  · rwa [List.getElem?_drop] at e
  · cases e

/-- The world where cells of a block are laid anew. -/
theorem HR.write {B : Nat} {m : Mp} {h : Mem} {w : World} (r : HR B m h w) {b : Nat} {k : Blk} {l : Loc} (hb : h.blk b = some k) (ho : k.own = true) (hl : m b = some l) (hm : l.mp = false) {o : Nat} {xs : List AV} {vs : List Value}
    (hv : VRs m xs vs) (hfit : o + xs.length ≤ k.cells.length) {cur : Array Value} {t : TypeId} (hcur : w.heap[l.blk]? = some (.cells cur t (0, 0))) :
    HR B m (h.set b (some { k with cells := lay k.cells o xs })) (w.setRow l.blk (lay cur.toList (l.base + o) vs).toArray) := by
  obtain ⟨l', hl', hh⟩ := r.held b k hb
  rw [hl] at hl'; cases hl'
  obtain ⟨⟨c, t', fz, h1, h2, h3, us, h4, h5⟩, fit, own, sz⟩ := hh.c hm
  rw [hcur] at h1; cases h1
  have hul := h4.length
  have hvl := hv.length
  have hsz : l.base + o + vs.length ≤ cur.toList.length := by simp; omega
  have r1 : HR B m (h.set b none) (w.setRow l.blk (lay cur.toList (l.base + o) vs).toArray) := by
    refine (r.drop b).poke l.blk (by rw [setRow_size]; exact Nat.le_refl _) (fun i hi _ => setRow_other _ _ _ _ hi) ?_
    intro b' k' l' hb' hl'
    rw [Mem.blk_set] at hb'
    split at hb'
    · cases hb'
    · rename_i hne
      exact (r.sep b b' k k' l l' (Ne.symm hne) hb ho hb' hl hl').symm
  have hup := Mp.up_same m b l hl
  have r2 := r1.add b { k with cells := lay k.cells o xs } l (.inr hl) (HeldC.h ⟨⟨_, t, (0, 0), setRow_at w l.blk _ _ t (0, 0) hcur, by simpa [lay_length hsz] using h2, fun _ => rfl, lay us o vs,
      by rw [hup]; exact VRs.lay h4 hv, fun j hj => by
        rw [lay_length (by omega)] at hj
        have e1 : (lay cur.toList (l.base + o) vs).toArray[l.base + j]? = (lay cur.toList (l.base + o) vs)[l.base + j]? := by simp
        rw [e1, lay_get hsz, lay_get (by omega)]
        have e2 := h5 j hj
        by_cases a1 : j < o
        · rw [if_pos (by omega), if_pos a1]; simpa using e2
        · rw [if_neg (by omega), if_neg a1]
          by_cases a2 : j < o + vs.length
          · rw [if_pos (by omega), if_pos a2]; congr 1; omega
          · rw [if_neg (by omega), if_neg a2]; simpa using e2⟩,
    by show (lay k.cells o xs).length ≤ l.n; rw [lay_length hfit]; exact fit, own, sz⟩ hm) (fun b' k' l' hne hb' hl' => by
      rw [Mem.blk_set_ne _ _ _ _ hne] at hb'
      exact (r.sep b b' k k' l l' (Ne.symm hne) hb ho hb' hl hl').symm)
  rw [hup] at r2
  exact r2.blk (fun j => by rw [Mem.blk_set, Mem.blk_set, Mem.blk_set]; split <;> rfl)

/-- A block goes on as another one, from a cell on, with more cells. -/
theorem HR.move {B : Nat} {m : Mp} {h : Mem} {w : World} (r : HR B m h w) {b n : Nat} {k : Blk} {l : Loc} (hb : h.blk b = some k) (ho : k.own = true) (hg : k.grow = true) (hl : m b = some l) (hm : l.mp = false) (hn : m n = none)
    {o p : Nat} {old xs : List AV} {vs : List Value} (hold : sub k.cells o p = some old) (hv : VRs m xs vs) (hfit : o + p + xs.length ≤ l.n) {cur : Array Value} {t : TypeId} (hcur : w.heap[l.blk]? = some (.cells cur t (0, 0))) :
    HR B (m.up n ⟨l.blk, l.base + o, l.n - o, l.sz, false⟩) ((h.set b none).set n (some ⟨k.ty, k.sz, true, true, old ++ xs⟩)) (w.setRow l.blk (lay cur.toList (l.base + o + p) vs).toArray) := by
  obtain ⟨l', hl', hh⟩ := r.held b k hb
  rw [hl] at hl'; cases hl'
  obtain ⟨⟨c, t', fz, h1, h2, h3, us, h4, h5⟩, fit, own, sz⟩ := hh.c hm
  rw [hcur] at h1; cases h1
  have hul := h4.length
  have hvl := hv.length
  obtain ⟨s1, rfl⟩ := sub_some hold
  have hsz : l.base + o + p + vs.length ≤ cur.toList.length := by simp; omega
  have r1 : HR B m (h.set b none) (w.setRow l.blk (lay cur.toList (l.base + o + p) vs).toArray) := by
    refine (r.drop b).poke l.blk (by rw [setRow_size]; exact Nat.le_refl _) (fun i hi _ => setRow_other _ _ _ _ hi) ?_
    intro b' k' l' hb' hl'
    rw [Mem.blk_set] at hb'
    split at hb'
    · cases hb'
    · rename_i hne
      exact (r.sep b b' k k' l l' (Ne.symm hne) hb ho hb' hl hl').symm
  have hmu : m.le (m.up n ⟨l.blk, l.base + o, l.n - o, l.sz, false⟩) := Mp.le_up _ _ _ (.inl hn)
  have hlen1 : ((k.cells.drop o).take p).length = p := by simp; omega
  have hlen2 : ((us.drop o).take p).length = p := by simp; omega
  refine r1.add n ⟨k.ty, k.sz, true, true, (k.cells.drop o).take p ++ xs⟩ ⟨l.blk, l.base + o, l.n - o, l.sz, false⟩ (.inl hn) (HeldC.h ⟨⟨_, t, (0, 0), setRow_at w l.blk _ _ t (0, 0) hcur, by simp only [List.size_toArray, lay_length hsz]; simp; omega, fun _ => rfl,
      (us.drop o).take p ++ vs, VRs.append (VRs.mono hmu _ _ (VRs.take p (VRs.drop o h4))) (VRs.mono hmu _ _ hv), fun j hj => by
        rw [List.length_append, hlen2] at hj
        have e1 : (lay cur.toList (l.base + o + p) vs).toArray[l.base + o + j]? = (lay cur.toList (l.base + o + p) vs)[l.base + o + j]? := by simp
        rw [e1, lay_get hsz]
        by_cases a1 : j < p
        · rw [if_pos (by omega), List.getElem?_append_left (by rw [hlen2]; exact a1), List.getElem?_take, if_pos a1, List.getElem?_drop]
          have e2 := h5 (o + j) (by omega)
          rw [← Nat.add_assoc] at e2
          simpa using e2
        · rw [if_neg (by omega), if_pos (by omega), List.getElem?_append_right (by rw [hlen2]; omega), hlen2]
          congr 1; omega⟩, ?_, fun _ => own ho, fun _ => sz hg⟩ rfl) ?_
  · show ((k.cells.drop o).take p ++ xs).length ≤ l.n - o
    rw [List.length_append, hlen1]; omega
  · intro b' k' l' hne hb' hl'
    rw [Mem.blk_set] at hb'
    split at hb'
    · cases hb'
    · rename_i hne'
      exact (r.sep b b' k k' l l' (Ne.symm hne') hb ho hb' hl hl').symm

/-- A new block. -/
theorem HR.new {B : Nat} {m : Mp} {h : Mem} {w : World} (r : HR B m h w) {n : Nat} (hn : m n = none) (ty sz : Nat) (grow : Bool) {cs : List AV} {us rest : List Value} (hv : VRs m cs us) (t : TypeId) :
    HR B (m.up n ⟨w.heap.size, 0, (us ++ rest).length, sz, false⟩) (h.set n (some ⟨ty, sz, true, grow, cs⟩)) (w.alloc (.cells (us ++ rest).toArray t)) := by
  have hs : (w.alloc (.cells (us ++ rest).toArray t)).heap.size = w.heap.size + 1 := by show (w.heap.push _).size = _; rw [Array.size_push]
  have hat : (w.alloc (.cells (us ++ rest).toArray t)).heap[w.heap.size]? = some (.cells (us ++ rest).toArray t (0, 0)) := by show (w.heap.push _)[w.heap.size]? = _; rw [Array.getElem?_push, if_pos rfl]
  have hold : ∀ i, i < w.heap.size → (w.alloc (.cells (us ++ rest).toArray t)).heap[i]? = w.heap[i]? := fun i hi => by
    show (w.heap.push _)[i]? = _; rw [Array.getElem?_push, if_neg (by omega)]
  have r0 : HR B m h (w.alloc (.cells (us ++ rest).toArray t)) := ⟨by rw [hs]; have := r.base; omega, fun b k hb => by
    obtain ⟨l, hl, hh⟩ := r.held b k hb
    exact ⟨l, hl, hh.same (hold _ (r.lt hb hl))⟩, r.sep⟩
  have hul := hv.length
  refine r0.add n ⟨ty, sz, true, grow, cs⟩ ⟨w.heap.size, 0, (us ++ rest).length, sz, false⟩ (.inl hn) (HeldC.h ⟨⟨_, t, (0, 0), hat, by simp, fun _ => rfl, us, VRs.mono (Mp.le_up _ _ _ (.inl hn)) _ _ hv, fun j hj => ?_⟩, ?_, fun _ => r.base, fun _ => rfl⟩ rfl) ?_
  · have e : (us ++ rest).toArray[0 + j]? = (us ++ rest)[j]? := by simp
    rw [e, List.getElem?_append_left hj]
  · show cs.length ≤ (us ++ rest).length
    rw [List.length_append]; omega
  · intro b k l' hne hb hl'
    have := r.lt hb hl'
    show l'.blk ≠ w.heap.size
    omega

end Go.Proofs.YtamfoplfbidolaaGreatDoorE

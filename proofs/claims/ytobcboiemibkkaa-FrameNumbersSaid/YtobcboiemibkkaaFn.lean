/- Frame: words; a pool's cells; what is of a pool. -/
import Derived.Test.YtobcboiemibkkaaT
import Derived.Test.YtobcboiemibkkaaB
import Derived.Test.YtobcboiemibkkaaE29
namespace Go.Proofs.YtobcboiemibkkaaT
open Go Go.Proofs.YtobcboiemibkkaaE Go.Proofs.YtobcboiemibkkaaB
set_option linter.unusedSimpArgs false
set_option linter.unusedVariables false
attribute [local congr] Post_cg PostL_cg condP_cg

/-! ### Operations as words -/
def ldA (n : Option Nat) (a : AV) : A AV := match a with
    | .ptr b o => A.bind (rdBlk b) fun k => A.ofOpt (partA k.cells o n)
    | _ => A.fail
theorem op_load (c : FuncId → List AV → A AV) (ts : List AV) (n : Option Nat) (a : X) : opRun c ts (.load n a) = ldA n (a.ev ts) := Eq.trans rfl rfl
def stA (n : Nat) (a x : AV) : A AV := match a with
    | .ptr b o => match Nat.beq x.cells.length n && x.cells.all AV.one with
      | true => A.bind (rdBlk b) fun k => match Nat.ble (o + n) k.cells.length with
        | true => A.bind (wrBlk b (lay k.cells o x.cells)) fun _ => A.ret (.tup [])
        | false => A.fail
      | false => A.fail
    | _ => A.fail
theorem op_store (c : FuncId → List AV → A AV) (ts : List AV) (n : Nat) (a x : X) : opRun c ts (.store n a x) = stA n (a.ev ts) (x.ev ts) := Eq.trans rfl rfl
theorem want_sl (ts : List AV) (t : Nat) (w b : Bool) (h : sl ts t = .bool b) : wantA ts (some (t, w)) = (b == w) := by rw [want_some, h]
theorem step_t {c : FuncId → List AV → A AV} {ts : List AV} {d : Option Nat} {t : Nat} {op : AOp} (h : sl ts t = .bool true) : stepR c ts ⟨d, some (t, true), op⟩ = opRun c ts op := by
  unfold stepR; rw [want_sl ts t true true h]; rfl
theorem step_f {c : FuncId → List AV → A AV} {ts : List AV} {d : Option Nat} {t : Nat} {op : AOp} (h : sl ts t = .bool false) : stepR c ts ⟨d, some (t, false), op⟩ = opRun c ts op := by
  unfold stepR; rw [want_sl ts t false false h]; rfl
theorem step_nt {c : FuncId → List AV → A AV} {ts : List AV} {d : Option Nat} {t : Nat} {op : AOp} (h : sl ts t = .bool false) : stepR c ts ⟨d, some (t, true), op⟩ = A.ret (.tup []) := by
  unfold stepR; rw [want_sl ts t true false h]; rfl
theorem step_nf {c : FuncId → List AV → A AV} {ts : List AV} {d : Option Nat} {t : Nat} {op : AOp} (h : sl ts t = .bool true) : stepR c ts ⟨d, some (t, false), op⟩ = A.ret (.tup []) := by
  unfold stepR; rw [want_sl ts t false true h]; rfl
theorem ld_at {h : Mem} {nx b : Nat} {k : Blk} (hb : h.blk b = some k) (hn : b < nx) {o : Nat} {v : AV} (hv : k.cells[o]? = some v) (lg : Nat) : ldA none (.ptr b o) h nx lg = some ⟨v, h, nx, bit lg b, 0⟩ := by
  unfold ldA
  simp only [A.bind, rdBlk, blt_of hn, hb, partA, hv, A.ofOpt, A.ret, Nat.or_zero]
theorem ld_sub {h : Mem} {nx b : Nat} {k : Blk} (hb : h.blk b = some k) (hn : b < nx) {o n : Nat} {vs : List AV} (hv : sub k.cells o n = some vs) (lg : Nat) : ldA (some n) (.ptr b o) h nx lg = some ⟨.agg vs, h, nx, bit lg b, 0⟩ := by
  unfold ldA
  simp only [A.bind, rdBlk, blt_of hn, hb, partA, hv, Option.map_some, A.ofOpt, A.ret, Nat.or_zero]
theorem st_at {h : Mem} {nx b : Nat} {t : TypeId} {sz : Nat} {g : Bool} {cs : List AV} (hb : h.blk b = some ⟨t, sz, true, g, cs⟩) (hn : b < nx) {n o : Nat} (x : AV) (hx : x.cells.length = n) (ho : x.cells.all AV.one = true) (hl : o + n ≤ cs.length) (lg : Nat) :
    stA n (.ptr b o) x h nx lg = some ⟨.tup [], h.set b (some ⟨t, sz, true, g, lay cs o x.cells⟩), nx, bit lg b, bit lg b⟩ := by
  unfold stA
  have e1 : Nat.beq x.cells.length n = true := by rw [hx]; exact Nat.beq_refl n
  have e2 : Nat.ble (o + n) cs.length = true := Nat.ble_eq_true_of_le hl
  have e3 : (lay cs o x.cells).length = cs.length := by
    unfold lay
    simp only [List.length_append, List.length_take, List.length_drop]
    omega
  have e4 : Nat.beq (lay cs o x.cells).length cs.length = true := by rw [e3]; exact Nat.beq_refl _
  simp only [e1, ho, Bool.and_true, A.bind, rdBlk, blt_of hn, hb, e2, wrBlk, e4, Bool.true_and, A.ret, Nat.or_zero, Nat.zero_or, Nat.or_self]

/-! ### A frame; a pool -/
structure Fr where
  m : Int
  pc : Int
  se : Int
  ho : Int
  sr : Int
  self : Int
  sl : AV
  st : AV
def fcells (f : Fr) : List AV := [.int .i64 f.m, .int .i64 f.pc, .int .i64 f.se, .int .i64 f.ho, .int .i64 f.sr, .int .u32 f.self, f.sl, f.st]
def pcells (F : List Fr) (U : List Bool) (s : Int) : List AV := (F.map fcells).flatten ++ (U.map .bool ++ [.int .i64 s])
theorem all8 (F : List Fr) : ∀ x ∈ F.map fcells, x.length = 8 := by
  intro x hx
  obtain ⟨l, _, rfl⟩ := List.mem_map.1 hx
  rfl
theorem flen {F : List Fr} (hF : F.length = 24) : (F.map fcells).flatten.length = 192 := by rw [flat_len (all8 F), List.length_map, hF]
theorem plen {F : List Fr} {U : List Bool} (hF : F.length = 24) (hU : U.length = 24) (s : Int) : (pcells F U s).length = 217 := by
  unfold pcells
  simp only [List.length_append, flen hF, List.length_map, hU, List.length_singleton]
theorem p_line {F : List Fr} {U : List Bool} (hF : F.length = 24) (hU : U.length = 24) (s : Int) {i : Nat} (hi : i < F.length) : sub (pcells F U s) (i * 8) 8 = some (fcells F[i]) := by
  unfold sub
  rw [plen hF hU, Nat.ble_eq_true_of_le (by omega)]
  unfold pcells
  rw [flat_at (all8 F) (i := i) (by simpa using hi)]
  simp
theorem p_fld {F : List Fr} {U : List Bool} (hF : F.length = 24) (hU : U.length = 24) (s : Int) {i : Nat} (hi : i < F.length) {j : Nat} (hj : j < 8) : (pcells F U s)[i * 8 + j]? = (fcells F[i])[j]? := by
  obtain ⟨_, e⟩ := sub_inv (p_line hF hU s hi)
  rw [← e, List.getElem?_take_of_lt hj, List.getElem?_drop]
theorem p_used {F : List Fr} {U : List Bool} (hF : F.length = 24) (s : Int) {i : Nat} (hi : i < U.length) : (pcells F U s)[192 + i]? = some (.bool U[i]) := by
  unfold pcells
  rw [List.getElem?_append_right (by rw [flen hF]; omega), flen hF, show 192 + i - 192 = i by omega, List.getElem?_append_left (by simpa using hi), List.getElem?_map, List.getElem?_eq_getElem hi]
  rfl
theorem p_ser {F : List Fr} {U : List Bool} (hF : F.length = 24) (hU : U.length = 24) (s : Int) : (pcells F U s)[216]? = some (.int .i64 s) := by
  unfold pcells
  rw [List.getElem?_append_right (by rw [flen hF]; omega), flen hF, List.getElem?_append_right (by simp [hU])]
  simp [hU]
theorem w_line {F : List Fr} {U : List Bool} (s : Int) {i : Nat} (hi : i < F.length) (f : Fr) : lay (pcells F U s) (i * 8) (fcells f) = pcells (F.set i f) U s := by
  unfold pcells
  rw [lay_app _ _ _ _ (by rw [flat_len (all8 F), List.length_map]; simp only [fcells, List.length_cons, List.length_nil]; omega), lay_flat (all8 F) (by simpa using hi) _ rfl, List.map_set]
theorem lay_lay {α : Type} (cs : List α) (o : Nat) (xs : List α) (h : o + xs.length ≤ cs.length) (j : Nat) (v : α) (hj : j < xs.length) (e : (cs.drop o).take xs.length = xs) : lay cs (o + j) [v] = lay cs o (xs.set j v) := by
  apply List.ext_getElem?
  intro k
  have key : ∀ q (hq : q < xs.length), cs[o + q]? = some xs[q] := fun q hq => by
    have := congrArg (fun l => l[q]?) e
    simp only [List.getElem?_take_of_lt hq, List.getElem?_drop, List.getElem?_eq_getElem hq] at this
    exact this
  rw [lay_one _ _ _ (by omega)]
  unfold lay
  rw [List.length_set]
  by_cases c1 : k < o
  · rw [List.getElem?_set_ne (by omega), List.append_assoc, List.getElem?_append_left (by rw [List.length_take]; omega), List.getElem?_take_of_lt c1]
  · by_cases c2 : k < o + xs.length
    · obtain ⟨q, rfl⟩ : ∃ q, k = o + q := ⟨k - o, by omega⟩
      rw [List.append_assoc, List.getElem?_append_right (by rw [List.length_take]; omega), List.length_take, show o + q - min o cs.length = q by omega, List.getElem?_append_left (by rw [List.length_set]; omega)]
      by_cases c3 : j = q
      · subst c3
        rw [List.getElem?_set_self (by omega), List.getElem?_set_self hj]
      · rw [List.getElem?_set_ne (by omega), List.getElem?_set_ne c3, key q (by omega), List.getElem?_eq_getElem (by omega)]
    · rw [List.getElem?_set_ne (by omega), List.getElem?_append_right (by simp only [List.length_append, List.length_take, List.length_set]; omega), List.getElem?_drop]
      simp only [List.length_append, List.length_take, List.length_set]
      congr 1
      omega
theorem w_fld {F : List Fr} {U : List Bool} (hF : F.length = 24) (hU : U.length = 24) (s : Int) {i : Nat} (hi : i < F.length) {j : Nat} (hj : j < 8) (v : AV) (f : Fr) (hf : fcells f = (fcells F[i]).set j v) : lay (pcells F U s) (i * 8 + j) [v] = pcells (F.set i f) U s := by
  obtain ⟨b, e⟩ := sub_inv (p_line hF hU s hi)
  rw [← w_line s hi f, hf]
  exact lay_lay _ _ _ b j v hj e
theorem w_used {F : List Fr} {U : List Bool} (hF : F.length = 24) (s : Int) {i : Nat} (hi : i < U.length) (b : Bool) : lay (pcells F U s) (192 + i) [.bool b] = pcells F (U.set i b) s := by
  unfold pcells
  rw [lay_skip _ _ _ _ 192 (flen hF).symm, lay_app _ _ _ _ (by simp; omega), lay_one _ _ _ (by simpa using hi), List.map_set]
theorem w_ser {F : List Fr} {U : List Bool} (hF : F.length = 24) (hU : U.length = 24) (s s' : Int) : lay (pcells F U s) 216 [.int .i64 s'] = pcells F U s' := by
  unfold pcells
  rw [show (216 : Nat) = 192 + (24 + 0) from rfl, lay_skip _ _ _ _ 192 (flen hF).symm, lay_skip _ _ _ _ 24 (by rw [List.length_map, hU])]
  rfl
def u32s (l : List Int) : List AV := l.map fun x => .int .u32 x
theorem u32s_len (l : List Int) : (u32s l).length = l.length := by unfold u32s; simp
theorem u32s_at {l : List Int} {i : Nat} (h : i < l.length) : (u32s l)[i]? = some (.int .u32 l[i]) := by unfold u32s; rw [List.getElem?_map, List.getElem?_eq_getElem h]; rfl
theorem u32s_one (l : List Int) : (u32s l).all AV.one = true := by unfold u32s; simp [AV.one]
theorem u32s_app (l m : List Int) : u32s (l ++ m) = u32s l ++ u32s m := by unfold u32s; simp

/-! ### A row that is of one alone -/
def OR (s : AV) (h : Mem) (nx : Nat) (l : List Int) : Prop :=
  (s = .nils ∧ l = []) ∨ (∃ b, s = .slc b 0 0 (some 0) ∧ l = [] ∧ b < nx ∧ ∃ K, h.blk b = some K) ∨ ∃ b t r, s = .slc b 0 l.length none ∧ b < nx ∧ h.blk b = some ⟨t, 1, true, true, u32s l ++ r⟩
/-- Its block. -/
def bid : AV → Option Nat
  | .slc b _ _ _ => some b
  | _ => none
theorem OR.rv {s : AV} {h : Mem} {nx : Nat} {l : List Int} (g : OR s h nx l) : RV 1 l.length s h 0 nx (u32s l) := by
  rcases g with ⟨rfl, rfl⟩ | ⟨b, rfl, rfl, hb, K, hK⟩ | ⟨b, t, r, rfl, hb, hK⟩
  · exact .inl ⟨rfl, rfl, rfl⟩
  · exact .inr ⟨b, 0, _, K, by omega, hb, rfl, hK, by unfold sub; rw [Nat.ble_eq_true_of_le (by simp)]; simp [u32s]⟩
  · refine .inr ⟨b, 0, _, _, by omega, hb, rfl, hK, ?_⟩
    unfold sub
    rw [Nat.ble_eq_true_of_le (by simp [u32s_len])]
    simp only [Nat.mul_one, List.drop_zero]
    rw [List.take_append_of_le_length (by rw [u32s_len]; exact Nat.le_refl _), List.take_of_length_le (by rw [u32s_len]; exact Nat.le_refl _)]
theorem OR.keep {s : AV} {h h' : Mem} {nx nx' : Nat} {l : List Int} (g : OR s h nx l) (hn : nx ≤ nx') (e : ∀ b, bid s = some b → h'.blk b = h.blk b) : OR s h' nx' l := by
  rcases g with ⟨rfl, rfl⟩ | ⟨b, rfl, rfl, hb, K, hK⟩ | ⟨b, t, r, rfl, hb, hK⟩
  · exact .inl ⟨rfl, rfl⟩
  · exact .inr (.inl ⟨b, rfl, rfl, by omega, K, (e b rfl).trans hK⟩)
  · exact .inr (.inr ⟨b, t, r, rfl, by omega, (e b rfl).trans hK⟩)
theorem OR.lt {s : AV} {h : Mem} {nx : Nat} {l : List Int} (g : OR s h nx l) {b : Nat} (hb : bid s = some b) : b < nx := by
  rcases g with ⟨rfl, rfl⟩ | ⟨c, rfl, rfl, hc, _⟩ | ⟨c, t, r, rfl, hc, _⟩
  · cases hb
  · cases hb; exact hc
  · cases hb; exact hc
theorem OR.form {s : AV} {h : Mem} {nx : Nat} {l : List Int} (g : OR s h nx l) : (s = .nils ∧ l = []) ∨ ∃ b c, s = .slc b 0 l.length c := by
  rcases g with ⟨rfl, rfl⟩ | ⟨c, rfl, rfl, hc, _⟩ | ⟨c, t, r, rfl, hc, _⟩
  · exact .inl ⟨rfl, rfl⟩
  · exact .inr ⟨_, _, rfl⟩
  · exact .inr ⟨_, _, rfl⟩
theorem OR.lenOp {s : AV} {h : Mem} {nx : Nat} {l : List Int} (g : OR s h nx l) : lenOp s = A.ret (.int .i64 l.length) := g.rv.lenOp
/-- What of a pool is owned. -/
def Own (F : List Fr) (b : Nat) : Prop := ∃ i, ∃ h : i < F.length, bid F[i].sl = some b ∨ bid F[i].st = some b
structure PS (h : Mem) (nx p : Nat) (F : List Fr) (U : List Bool) (s : Int) (A B : List (List Int)) : Prop where
  hF : F.length = 24
  hU : U.length = 24
  hA : A.length = 24
  hB : B.length = 24
  hb : ∃ t, h.blk p = some ⟨t, 217, true, false, pcells F U s⟩
  rA : ∀ i (h1 : i < F.length) (h2 : i < A.length), OR F[i].sl h nx A[i]
  rB : ∀ i (h1 : i < F.length) (h2 : i < B.length), OR F[i].st h nx B[i]
  hp : p < nx
  np : ∀ b, Own F b → b ≠ p
  dA : ∀ i j (h1 : i < F.length) (h2 : j < F.length) b, i ≠ j → bid F[i].sl = some b → bid F[j].sl ≠ some b
  dB : ∀ i j (h1 : i < F.length) (h2 : j < F.length) b, i ≠ j → bid F[i].st = some b → bid F[j].st ≠ some b
  dC : ∀ i j (h1 : i < F.length) (h2 : j < F.length) b, bid F[i].sl = some b → bid F[j].st ≠ some b
end Go.Proofs.YtobcboiemibkkaaT

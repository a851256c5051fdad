/- The engine, part 32: rows of elements of whatever size: read, cut, of one's own, appended; words for loads and stores; kinds of contracts. -/
import Derived.Test.YtadenjdkknakgaaE30
namespace Go.Proofs.YtadenjdkknakgaaE
open Go Go.RowKit
set_option linter.unusedVariables false
set_option linter.unusedSimpArgs false

/-! ### Loads and stores as words -/
def ldA (n : Option Nat) (a : AV) : A AV := match a with
    | .ptr b o => A.bind (rdBlk b) fun k => A.ofOpt (partA k.cells o n)
    | _ => A.fail
theorem op_load (c : FuncId → List AV → A AV) (ts : List AV) (n : Option Nat) (a : X) : opRun c ts (.load n a) = ldA n (a.ev ts) := Eq.trans rfl rfl
def stA (n : Nat) (a x : AV) : A AV := match a with
    | .ptr b o => match Nat.beq x.cells.length n && x.cells.all AV.one with
      | true => A.bind (rdBlk b) fun k => match Nat.ble (o + n) k.cells.length with
        | true => A.bind (wrBlk b (lay k.cells o x.cells)) fun _ => A.ret (.tup [])
        | false => A.fail
      | false => A.fail
    | _ => A.fail
theorem op_store (c : FuncId → List AV → A AV) (ts : List AV) (n : Nat) (a x : X) : opRun c ts (.store n a x) = stA n (a.ev ts) (x.ev ts) := Eq.trans rfl rfl
theorem want_sl (ts : List AV) (t : Nat) (w b : Bool) (h : sl ts t = .bool b) : wantA ts (some (t, w)) = (b == w) := by rw [want_some, h]
theorem step_t {c : FuncId → List AV → A AV} {ts : List AV} {d : Option Nat} {t : Nat} {op : AOp} (h : sl ts t = .bool true) : stepR c ts ⟨d, some (t, true), op⟩ = opRun c ts op := by
  unfold stepR; rw [want_sl ts t true true h]; rfl
theorem step_f {c : FuncId → List AV → A AV} {ts : List AV} {d : Option Nat} {t : Nat} {op : AOp} (h : sl ts t = .bool false) : stepR c ts ⟨d, some (t, false), op⟩ = opRun c ts op := by
  unfold stepR; rw [want_sl ts t false false h]; rfl
theorem step_nt {c : FuncId → List AV → A AV} {ts : List AV} {d : Option Nat} {t : Nat} {op : AOp} (h : sl ts t = .bool false) : stepR c ts ⟨d, some (t, true), op⟩ = A.ret (.tup []) := by
  unfold stepR; rw [want_sl ts t true false h]; rfl
theorem step_nf {c : FuncId → List AV → A AV} {ts : List AV} {d : Option Nat} {t : Nat} {op : AOp} (h : sl ts t = .bool true) : stepR c ts ⟨d, some (t, false), op⟩ = A.ret (.tup []) := by
  unfold stepR; rw [want_sl ts t false true h]; rfl
theorem ld_at {h : Mem} {nx b : Nat} {k : Blk} (hb : h.blk b = some k) (hn : b < nx) {o : Nat} {v : AV} (hv : k.cells[o]? = some v) (lg : Nat) : ldA none (.ptr b o) h nx lg = some ⟨v, h, nx, bit lg b, 0⟩ := by
  unfold ldA
  simp only [A.bind, rdBlk, blt_of hn, hb, partA, hv, A.ofOpt, A.ret, Nat.or_zero]
theorem ld_sub {h : Mem} {nx b : Nat} {k : Blk} (hb : h.blk b = some k) (hn : b < nx) {o n : Nat} {vs : List AV} (hv : sub k.cells o n = some vs) (lg : Nat) : ldA (some n) (.ptr b o) h nx lg = some ⟨.agg vs, h, nx, bit lg b, 0⟩ := by
  unfold ldA
  simp only [A.bind, rdBlk, blt_of hn, hb, partA, hv, Option.map_some, A.ofOpt, A.ret, Nat.or_zero]
theorem st_at {h : Mem} {nx b : Nat} {t : TypeId} {sz : Nat} {g : Bool} {cs : List AV} (hb : h.blk b = some ⟨t, sz, true, g, cs⟩) (hn : b < nx) {n o : Nat} (x : AV) (hx : x.cells.length = n) (ho : x.cells.all AV.one = true) (hl : o + n ≤ cs.length) (lg : Nat) :
    stA n (.ptr b o) x h nx lg = some ⟨.tup [], h.set b (some ⟨t, sz, true, g, lay cs o x.cells⟩), nx, bit lg b, bit lg b⟩ := by
  unfold stA
  have e1 : Nat.beq x.cells.length n = true := by rw [hx]; exact Nat.beq_refl n
  have e2 : Nat.ble (o + n) cs.length = true := Nat.ble_eq_true_of_le hl
  have e3 : (lay cs o x.cells).length = cs.length := by
    unfold lay
    simp only [List.length_append, List.length_take, List.length_drop]
    omega
  have e4 : Nat.beq (lay cs o x.cells).length cs.length = true := by rw [e3]; exact Nat.beq_refl _
  simp only [e1, ho, Bool.and_true, A.bind, rdBlk, blt_of hn, hb, e2, wrBlk, e4, Bool.true_and, A.ret, Nat.or_zero, Nat.zero_or, Nat.or_self]
/-- A block of noughts that is laid, and written whole. -/
theorem st_new (h : Mem) (nx : Nat) {t : TypeId} {sz n : Nat} {g : Bool} (z xs : List AV) (hz : z.length = n) (hx : xs.length = n) (ho : xs.all AV.one = true) (lg : Nat) : stA n (.ptr nx 0) (.agg xs) (h.set nx (some ⟨t, sz, true, g, z⟩)) (nx + 1) lg = some ⟨.tup [], h.set nx (some ⟨t, sz, true, g, xs⟩), nx + 1, bit lg nx, bit lg nx⟩ := by
  have := st_at (n := n) (h := h.set nx (some ⟨t, sz, true, g, z⟩)) (Mem.blk_set_same ..) (show nx < nx + 1 by omega) (o := 0) (.agg xs) hx ho (by omega) lg
  rw [Mem.set_set] at this
  rw [this]
  have e : lay z 0 xs = xs := by
    unfold lay
    rw [List.take_zero, List.nil_append, List.drop_of_length_le (by omega), List.append_nil]
  simp only [AV.cells, e]

/-! ### Masks -/
theorem bit_and {lg a b : Nat} (h : b ≠ a) : bit lg a &&& 2 ^ b = 0 := by
  unfold bit
  cases Nat.blt a lg
  · exact Nat.zero_and _
  · exact and_pow (Ne.symm h)
theorem low_z {lg m x : Nat} (h : m &&& 2 ^ x = 0) : lowBits lg m &&& 2 ^ x = 0 := by
  apply Nat.eq_of_testBit_eq; intro i
  rw [Nat.testBit_and, lowBits_test, Nat.zero_testBit]
  have := congrArg (fun k => Nat.testBit k i) h
  simp only [Nat.testBit_and, Nat.zero_testBit] at this
  cases a : m.testBit i <;> cases b : (2 ^ x).testBit i <;> simp_all
theorem bit_new {nx nx' p : Nat} (h : p < nx) : bit nx p &&& (2 ^ nx' - 2 ^ nx) = 0 := by rw [bit_hi h, Nat.and_comm]; exact new_lo h

/-! ### Rows that are read -/
/-- The block of a row. -/
def bid : AV → Option Nat
  | .slc b _ _ _ => some b
  | _ => none
theorem bidne {b q o n : Nat} {c : Option Nat} (h : bid (.slc b o n c) ≠ some q) : q ≠ b := fun e => h (by rw [e]; rfl)
/-- A row that is read, and cut. -/
def RD (sz : Nat) (x : AV) (h : Mem) (nx : Nat) (L : List (List AV)) : Prop :=
  (x = .nils ∧ L = []) ∨ ∃ b o c, x = .slc b o L.length c ∧ b < nx ∧ (∀ y ∈ L, y.length = sz) ∧
    ((∃ cap, c = some cap ∧ L.length ≤ cap ∧ (L = [] ∨ ∃ K, h.blk b = some K ∧ sub K.cells o (L.length * sz) = some L.flatten)) ∨
      (c = none ∧ 0 < sz ∧ ∃ K, h.blk b = some K ∧ K.grow = true ∧ K.sz = sz ∧ sub K.cells o (L.length * sz) = some L.flatten))
theorem RD.nil (sz : Nat) (h : Mem) (nx : Nat) : RD sz .nils h nx [] := .inl ⟨rfl, rfl⟩
theorem RD.keep {sz : Nat} {x : AV} {h h' : Mem} {nx nx' : Nat} {L : List (List AV)} (g : RD sz x h nx L) (hn : nx ≤ nx') (e : ∀ b, bid x = some b → b < nx → h'.blk b = h.blk b) : RD sz x h' nx' L := by
  rcases g with g | ⟨b, o, c, rfl, hb, hs, g⟩
  · exact .inl g
  · refine .inr ⟨b, o, c, rfl, by omega, hs, ?_⟩
    have e' := e b rfl hb
    rw [e']
    exact g
theorem RD.keeps {sz : Nat} {x : AV} {h h' : Mem} {nx nx' : Nat} {L : List (List AV)} (g : RD sz x h nx L) (hn : nx ≤ nx') (e : ∀ b, b < nx → h'.blk b = h.blk b) : RD sz x h' nx' L := g.keep hn fun b _ hb => e b hb
theorem RD.lt {sz : Nat} {x : AV} {h : Mem} {nx : Nat} {L : List (List AV)} (g : RD sz x h nx L) {b : Nat} (hb : bid x = some b) : b < nx := by
  rcases g with ⟨rfl, _⟩ | ⟨b', o, c, rfl, hb', _⟩
  · cases hb
  · cases hb; exact hb'
theorem RD.form {sz : Nat} {x : AV} {h : Mem} {nx : Nat} {L : List (List AV)} (g : RD sz x h nx L) : (x = .nils ∧ L = []) ∨ ∃ b o c, x = .slc b o L.length c := by
  rcases g with g | ⟨b, o, c, rfl, _⟩
  · exact .inl g
  · exact .inr ⟨b, o, c, rfl⟩
theorem RD.one {sz : Nat} {x : AV} {h : Mem} {nx : Nat} {L : List (List AV)} (g : RD sz x h nx L) : x.cells = [x] ∧ x.one = true := by
  rcases g.form with ⟨rfl, _⟩ | ⟨b, o, c, rfl⟩ <;> exact ⟨rfl, rfl⟩
theorem RD.lenA {sz : Nat} {x : AV} {h : Mem} {nx : Nat} {L : List (List AV)} (g : RD sz x h nx L) : lenA x = some L.length := by
  rcases g.form with ⟨rfl, rfl⟩ | ⟨b, o, c, rfl⟩ <;> rfl
theorem RD.lenOp {sz : Nat} {x : AV} {h : Mem} {nx : Nat} {L : List (List AV)} (g : RD sz x h nx L) : lenOp x = A.ret (.int .i64 L.length) := by
  rcases g.form with ⟨rfl, rfl⟩ | ⟨b, o, c, rfl⟩ <;> rfl
theorem RD.size {sz : Nat} {x : AV} {h : Mem} {nx : Nat} {L : List (List AV)} (g : RD sz x h nx L) : ∀ y ∈ L, y.length = sz := by
  rcases g with ⟨_, rfl⟩ | ⟨b, o, c, rfl, _, hs, _⟩
  · exact fun _ h => nomatch h
  · exact hs
theorem flat_cut {sz : Nat} {L : List (List AV)} (hs : ∀ y ∈ L, y.length = sz) {a e : Nat} (ha : a ≤ e) (he : e ≤ L.length) {cs : List AV} {o : Nat} (g : sub cs o (L.length * sz) = some L.flatten) : sub cs (o + a * sz) ((e - a) * sz) = some ((L.drop a).take (e - a)).flatten := by
  obtain ⟨h1, h2⟩ := sub_inv g
  have h3 : a * sz + (e - a) * sz = e * sz := by rw [← Nat.add_mul]; congr 1; omega
  have h4 : e * sz ≤ L.length * sz := Nat.mul_le_mul_right _ he
  have fl := flat_len hs
  have key : ∀ (M : List (List AV)), (∀ y ∈ M, y.length = sz) → ∀ k, (M.flatten.drop (k * sz)) = (M.drop k).flatten := by
    intro M hM
    induction M with
    | nil => intro k; simp
    | cons x M ih =>
      intro k
      cases k with
      | zero => simp
      | succ k =>
        have hx := hM x (by simp)
        rw [List.flatten_cons, List.drop_succ_cons, ← ih (fun y hy => hM y (by simp [hy])) k, List.drop_append, Nat.succ_mul, hx, List.drop_of_length_le (by rw [hx]; omega), List.nil_append]
        congr 1
        omega
  have key2 : ∀ (M : List (List AV)), (∀ y ∈ M, y.length = sz) → ∀ k, (M.flatten.take (k * sz)) = (M.take k).flatten := by
    intro M hM
    induction M with
    | nil => intro k; simp
    | cons x M ih =>
      intro k
      cases k with
      | zero => simp
      | succ k =>
        have hx := hM x (by simp)
        rw [List.flatten_cons, List.take_succ_cons, List.flatten_cons, ← ih (fun y hy => hM y (by simp [hy])) k, List.take_append, Nat.succ_mul, hx, List.take_of_length_le (by rw [hx]; omega)]
        congr 2
        omega
  unfold sub
  rw [Nat.ble_eq_true_of_le (by omega)]
  simp only [Option.some.injEq]
  rw [← key2 (L.drop a) (fun y hy => hs y (List.mem_of_mem_drop hy)) (e - a), ← key L hs a, ← h2, List.drop_take, List.take_take, List.drop_drop]
  congr 1
  omega
theorem sub_cell {cs : List AV} {o n : Nat} {xs : List AV} (g : sub cs o n = some xs) {j : Nat} {v : AV} (hv : xs[j]? = some v) : cs[o + j]? = some v := by
  obtain ⟨h1, rfl⟩ := sub_inv g
  rw [List.getElem?_take] at hv
  split at hv
  · rwa [List.getElem?_drop] at hv
  · cases hv
/-- An element of a row. -/
theorem RD.at {sz : Nat} {x : AV} {h : Mem} {nx : Nat} {L : List (List AV)} (g : RD sz x h nx L) {i : Nat} (hi : i < L.length) :
    ∃ b o c K, x = .slc b o L.length c ∧ b < nx ∧ h.blk b = some K ∧ sub K.cells (o + i * sz) sz = some L[i] ∧ ∀ j v, L[i][j]? = some v → K.cells[o + i * sz + j]? = some v := by
  rcases g with ⟨_, rfl⟩ | ⟨b, o, c, rfl, hb, hs, g⟩
  · cases hi
  · have : ∃ K, h.blk b = some K ∧ sub K.cells o (L.length * sz) = some L.flatten := by
      rcases g with ⟨cap, _, _, rfl | ⟨K, h1, h2⟩⟩ | ⟨_, _, K, h1, _, _, h2⟩
      · cases hi
      · exact ⟨K, h1, h2⟩
      · exact ⟨K, h1, h2⟩
    obtain ⟨K, h1, h2⟩ := this
    have h3 := flat_cut hs (show i ≤ i + 1 by omega) (by omega) h2
    rw [show i + 1 - i = 1 by omega, Nat.one_mul] at h3
    have h4 : ((L.drop i).take 1).flatten = L[i] := by
      rw [List.drop_eq_getElem_cons hi, List.take_succ_cons]
      simp
    rw [h4] at h3
    exact ⟨b, o, c, K, rfl, hb, h1, h3, fun j v hv => sub_cell h3 hv⟩
theorem asI_at (k : Nat) (lim : Nat) (h : k ≤ lim) (d : Nat) : bnd d lim (some (.int .i64 (k : Nat))) = some k := toNle_nat h
/-- A row is cut. -/
theorem RD.cut {sz : Nat} {x : AV} {h : Mem} {nx : Nat} {L : List (List AV)} (g : RD sz x h nx L) {a e : Nat} (ha : a ≤ e) (he : e ≤ L.length) (lo hi : Option AV) (hlo : (lo = none ∧ a = 0) ∨ lo = some (.int .i64 (a : Nat))) (hhi : (hi = none ∧ e = L.length) ∨ hi = some (.int .i64 (e : Nat))) :
    ∃ y, RD sz y h nx ((L.drop a).take (e - a)) ∧ (bid y = bid x) ∧ ∀ lg, ∃ tc, sliceA sz x lo hi none h nx lg = some ⟨y, h, nx, tc, 0⟩ ∧ ∀ q, bid x ≠ some q → tc &&& 2 ^ q = 0 := by
  have bl : ∀ lim, e ≤ lim → bnd L.length lim hi = some e := fun lim hl => by
    rcases hhi with ⟨rfl, rfl⟩ | rfl
    · rfl
    · exact asI_at e lim hl _
  have ba : bnd 0 e lo = some a := by
    rcases hlo with ⟨rfl, rfl⟩ | rfl
    · rfl
    · exact asI_at a e ha _
  have hlen : ((L.drop a).take (e - a)).length = e - a := by rw [List.length_take, List.length_drop]; omega
  rcases g with ⟨rfl, rfl⟩ | ⟨b, o, c, rfl, hb, hs, g⟩
  · have e0 : e = 0 := by simpa using he
    subst e0
    have a0 : a = 0 := by omega
    subst a0
    refine ⟨.nils, .inl ⟨rfl, rfl⟩, rfl, fun lg => ⟨0, ?_, fun q _ => Nat.zero_and _⟩⟩
    have b1 := bl 0 (Nat.le_refl _)
    rw [List.length_nil] at b1
    have b0 : bnd 0 0 none = some 0 := rfl
    simp only [sliceA, b0, b1, ba, A.ret]
  · have hs' : ∀ y ∈ (L.drop a).take (e - a), y.length = sz := fun y hy => hs y (List.mem_of_mem_drop (List.mem_of_mem_take hy))
    rcases g with ⟨cap, rfl, hc, g⟩ | ⟨rfl, hsz, K, hK, hg, hks, g⟩
    · refine ⟨.slc b (o + a * sz) (e - a) (some (cap - a)), .inr ⟨b, _, _, by rw [hlen], hb, hs', .inl ⟨_, rfl, by omega, ?_⟩⟩, rfl, fun lg => ⟨0, ?_, fun q _ => Nat.zero_and _⟩⟩
      · rcases g with rfl | ⟨K, hK, g⟩
        · exact .inl (by simp)
        · exact .inr ⟨K, hK, by rw [hlen]; exact flat_cut hs ha he g⟩
      · have b0 : bnd cap cap none = some cap := rfl
        simp only [sliceA, b0, bl cap (by omega), ba, A.ret]
    · refine ⟨.slc b (o + a * sz) (e - a) none, .inr ⟨b, _, _, by rw [hlen], hb, hs', .inr ⟨rfl, hsz, K, hK, hg, hks, by rw [hlen]; exact flat_cut hs ha he g⟩⟩, rfl, fun lg => ⟨bit lg b, ?_, fun q hq => bit_and (bidne hq)⟩⟩
      have hle : L.length ≤ (K.cells.length - o) / sz := by
        obtain ⟨h1, _⟩ := sub_inv g
        rw [Nat.le_div_iff_mul_le hsz]
        omega
      have c1 : (K.grow && Nat.blt 0 sz && Nat.beq K.sz sz) = true := by rw [hg, hks, Nat.beq_refl, blt_of hsz]; rfl
      simp only [sliceA, A.bind, rdBlk, blt_of hb, hK, c1, bl _ (show e ≤ (K.cells.length - o) / sz by omega), ba, A.ret, Nat.or_zero]
theorem SRow.rd {sz : Nat} {v : AV} {h : Mem} {nx : Nat} {l : List (List AV)} (r : SRow sz v h nx l) (hc : ∀ b n c, v = .slc b 0 n c → ∃ cap, c = some cap ∧ n ≤ cap ∧ b < nx) : RD sz v h nx l := by
  rcases r with g | ⟨b, c, rfl, hs, g⟩
  · exact .inl g
  · obtain ⟨cap, rfl, h1, h2⟩ := hc b _ c rfl
    refine .inr ⟨b, 0, _, rfl, h2, hs, .inl ⟨cap, rfl, h1, ?_⟩⟩
    by_cases hl : l = []
    · exact .inl hl
    · obtain ⟨h1, K, h3, r, h4⟩ := g hl
      refine .inr ⟨K, h3, ?_⟩
      have fl := flat_len hs
      unfold sub
      rw [h4, Nat.ble_eq_true_of_le (by rw [List.length_append, fl]; omega)]
      simp only [List.drop_zero, Option.some.injEq]
      rw [List.take_append_of_le_length (by omega), List.take_of_length_le (by omega)]
theorem KdV.rd {h : Mem} {nx : Nat} {ks : List Kd} {x : AV} (g : KdV h nx (.sl ks) x) : ∃ L, RD ks.length x h nx L ∧ L.length ≤ maxLen ∧ ∀ y ∈ L, KdsV h nx ks y := by
  have g0 := g
  obtain ⟨l, r, h1, h2⟩ := g.srow
  refine ⟨l, r.rd fun b n c e => ?_, h1, h2⟩
  simp only [KdV] at g0
  rcases g0 with rfl | ⟨b', cap, l', rfl, _, g3, q1, _⟩
  · cases e
  · cases e
    exact ⟨cap, rfl, g3, q1⟩
theorem RD.lit {h : Mem} {nx b sz : Nat} {t : TypeId} {z : Nat} {o g : Bool} {M : List (List AV)} {n : Nat} (hn : n = M.length) (hs : ∀ y ∈ M, y.length = sz) (hb : b < nx) (e : h.blk b = some ⟨t, z, o, g, M.flatten⟩) : RD sz (.slc b 0 n (some n)) h nx M := by
  subst hn
  refine .inr ⟨b, 0, _, rfl, hb, hs, .inl ⟨_, rfl, Nat.le_refl _, .inr ⟨_, e, ?_⟩⟩⟩
  unfold sub
  rw [flat_len hs, Nat.ble_eq_true_of_le (by omega)]
  simp only [List.drop_zero, Option.some.injEq]
  rw [List.take_of_length_le (by rw [flat_len hs]; omega)]
theorem RD.read {sz : Nat} {x : AV} {h : Mem} {nx : Nat} {L : List (List AV)} (g : RD sz x h nx L) (lg : Nat) : ∃ msk, rdEls sz L.length x h nx lg = some ⟨L.flatten, h, nx, msk, 0⟩ ∧ ∀ q, bid x ≠ some q → msk &&& 2 ^ q = 0 := by
  rcases g with ⟨rfl, rfl⟩ | ⟨b, o, c, rfl, hb, hs, g⟩
  · exact ⟨0, rfl, fun q _ => Nat.zero_and _⟩
  · cases L with
    | nil => exact ⟨0, rfl, fun q _ => Nat.zero_and _⟩
    | cons y L =>
      obtain ⟨K, h1, h2⟩ : ∃ K, h.blk b = some K ∧ sub K.cells o ((y :: L).length * sz) = some (y :: L).flatten := by
        rcases g with ⟨cap, _, _, h | ⟨K, h1, h2⟩⟩ | ⟨_, _, K, h1, _, _, h2⟩
        · cases h
        · exact ⟨K, h1, h2⟩
        · exact ⟨K, h1, h2⟩
      refine ⟨bit lg b, ?_, fun q hq => bit_and (bidne hq)⟩
      have hb1 : Nat.ble (L.length + 1) (L.length + 1) = true := Nat.ble_eq_true_of_le (Nat.le_refl _)
      rw [List.length_cons] at h2 ⊢
      simp only [rdEls, hb1, A.bind, rdBlk, blt_of hb, h1, h2, A.ofOpt, A.ret, Nat.or_zero]
theorem appOp_of {ty sz bytes : Nat} {s x : AV} {H : Mem} {nx lg n : Nat} {m : List AV} {msk : Nat} {r : Rs AV} (hl : lenA x = some n) (hr : rdEls sz n x H nx lg = some ⟨m, H, nx, msk, 0⟩) (ha : appA ty sz bytes n s m H nx lg = some r) : appOp ty sz bytes s x H nx lg = some ⟨r.v, r.h, r.nx, msk ||| r.tc, r.wr⟩ := by
  unfold appOp
  rw [hl]
  unfold A.bind
  simp only [hr, ha, Nat.zero_or]

/-! ### Rows of one's own -/
def OW (sz : Nat) (s : AV) (h : Mem) (nx : Nat) (L : List (List AV)) : Prop :=
  (s = .nils ∧ L = []) ∨ (∃ b, s = .slc b 0 0 (some 0) ∧ L = [] ∧ b < nx ∧ ∃ K, h.blk b = some K) ∨ (∃ b t r, s = .slc b 0 L.length none ∧ b < nx ∧ (∀ y ∈ L, y.length = sz) ∧ h.blk b = some ⟨t, sz, true, true, L.flatten ++ r⟩) ∨ ∃ b t z g, s = .slc b 0 L.length (some L.length) ∧ b < nx ∧ (∀ y ∈ L, y.length = sz) ∧ h.blk b = some ⟨t, z, true, g, L.flatten⟩
theorem OW.nil (sz : Nat) (h : Mem) (nx : Nat) : OW sz .nils h nx [] := .inl ⟨rfl, rfl⟩
theorem OW.keep {sz : Nat} {s : AV} {h h' : Mem} {nx nx' : Nat} {L : List (List AV)} (g : OW sz s h nx L) (hn : nx ≤ nx') (e : ∀ b, bid s = some b → h'.blk b = h.blk b) : OW sz s h' nx' L := by
  rcases g with ⟨rfl, rfl⟩ | ⟨b, rfl, rfl, hb, K, hK⟩ | ⟨b, t, r, rfl, hb, hs, hK⟩ | ⟨b, t, z, g, rfl, hb, hs, hK⟩
  · exact .inl ⟨rfl, rfl⟩
  · exact .inr (.inl ⟨b, rfl, rfl, by omega, K, (e b rfl).trans hK⟩)
  · exact .inr (.inr (.inl ⟨b, t, r, rfl, by omega, hs, (e b rfl).trans hK⟩))
  · exact .inr (.inr (.inr ⟨b, t, z, g, rfl, by omega, hs, (e b rfl).trans hK⟩))
theorem OW.lt {sz : Nat} {s : AV} {h : Mem} {nx : Nat} {L : List (List AV)} (g : OW sz s h nx L) {b : Nat} (hb : bid s = some b) : b < nx := by
  rcases g with ⟨rfl, rfl⟩ | ⟨c, rfl, rfl, hc, _⟩ | ⟨c, t, r, rfl, hc, _⟩ | ⟨c, t, z, g, rfl, hc, _⟩
  · cases hb
  · cases hb; exact hc
  · cases hb; exact hc
  · cases hb; exact hc
theorem OW.keeps {sz : Nat} {s : AV} {h h' : Mem} {nx nx' : Nat} {L : List (List AV)} (g : OW sz s h nx L) (hn : nx ≤ nx') (e : ∀ b, b < nx → h'.blk b = h.blk b) : OW sz s h' nx' L := g.keep hn fun b hb => e b (g.lt hb)
theorem OW.rd {sz : Nat} (hsz : 0 < sz) {s : AV} {h : Mem} {nx : Nat} {L : List (List AV)} (g : OW sz s h nx L) : RD sz s h nx L := by
  rcases g with ⟨rfl, rfl⟩ | ⟨b, rfl, rfl, hb, K, hK⟩ | ⟨b, t, r, rfl, hb, hs, hK⟩ | ⟨b, t, z, g, rfl, hb, hs, hK⟩
  rotate_left 3
  · exact RD.lit rfl hs hb hK
  · exact .inl ⟨rfl, rfl⟩
  · exact .inr ⟨b, 0, _, rfl, hb, (fun _ h => nomatch h), .inl ⟨0, rfl, Nat.le_refl _, .inl rfl⟩⟩
  · refine .inr ⟨b, 0, _, rfl, hb, hs, .inr ⟨rfl, hsz, _, hK, rfl, rfl, ?_⟩⟩
    have fl := flat_len hs
    unfold sub
    rw [Nat.ble_eq_true_of_le (by simp only [List.length_append, fl]; omega)]
    simp only [List.drop_zero, Option.some.injEq]
    rw [List.take_append_of_le_length (by omega), List.take_of_length_le (by omega)]
theorem OW.one {sz : Nat} {s : AV} {h : Mem} {nx : Nat} {L : List (List AV)} (g : OW sz s h nx L) : s.cells = [s] ∧ s.one = true := by
  rcases g with ⟨rfl, rfl⟩ | ⟨c, rfl, rfl, hc, _⟩ | ⟨c, t, r, rfl, hc, _⟩ | ⟨c, t, z, g, rfl, hc, _⟩ <;> exact ⟨rfl, rfl⟩
theorem OW.form {sz : Nat} {s : AV} {h : Mem} {nx : Nat} {L : List (List AV)} (g : OW sz s h nx L) : (s = .nils ∧ L = []) ∨ ∃ b c, s = .slc b 0 L.length c := by
  rcases g with ⟨rfl, rfl⟩ | ⟨c, rfl, rfl, hc, _⟩ | ⟨c, t, r, rfl, hc, _⟩ | ⟨c, t, z, g, rfl, hc, _⟩
  · exact .inl ⟨rfl, rfl⟩
  · exact .inr ⟨_, _, rfl⟩
  · exact .inr ⟨_, _, rfl⟩
  · exact .inr ⟨_, _, rfl⟩
theorem OW.lenOp {sz : Nat} {s : AV} {h : Mem} {nx : Nat} {L : List (List AV)} (g : OW sz s h nx L) : lenOp s = A.ret (.int .i64 L.length) := by
  rcases g.form with ⟨rfl, rfl⟩ | ⟨b, c, rfl⟩ <;> rfl
/-- An empty row that is made. -/
theorem OW.new {sz : Nat} (h : Mem) (nx : Nat) (t : TypeId) (z : Nat) : OW sz (.slc nx 0 0 (some 0)) (h.set nx (some ⟨t, z, true, false, []⟩)) (nx + 1) [] := .inr (.inl ⟨nx, rfl, rfl, by omega, _, Mem.blk_set_same ..⟩)
/-- What is read is appended to a row of one's own. -/
theorem OW.cat {sz : Nat} (hsz : 0 < sz) {s : AV} {H : Mem} {nx : Nat} {L : List (List AV)} (ty bytes : Nat) (g : OW sz s H nx L) {x : AV} {M : List (List AV)} (gx : RD sz x H nx M) (hf : ∀ k, k ≤ L.length + M.length → fits k bytes = true) (ho : M.flatten.all AV.one = true) (lg : Nat) :
    ∃ s' h' nx' tc wr, appOp ty sz bytes s x H nx lg = some ⟨s', h', nx', tc, wr⟩ ∧ nx ≤ nx' ∧ OW sz s' h' nx' (L ++ M) ∧ (∀ b, b < nx → bid s ≠ some b → h'.blk b = H.blk b) ∧ (∀ b, bid s' = some b → bid s = some b ∨ nx ≤ b) ∧ (∀ q, bid s ≠ some q → bid x ≠ some q → tc &&& 2 ^ q = 0) ∧ (∀ q, bid s ≠ some q → wr &&& 2 ^ q = 0) := by
  obtain ⟨msk, hr, hm⟩ := gx.read lg
  have hlen := gx.lenA
  have hM := gx.size
  by_cases m0 : M = []
  · subst m0
    have ha : appA ty sz bytes 0 s [] H nx lg = some ⟨s, H, nx, 0, 0⟩ := by
      rcases g with ⟨rfl, rfl⟩ | ⟨b, rfl, rfl, hb, K, hK⟩ | ⟨b, t, r, rfl, hb, hs, hK⟩ | ⟨b, t, z, g, rfl, hb, hs, hK⟩ <;> rfl
    exact ⟨_, _, _, _, _, appOp_of hlen hr ha, Nat.le_refl _, by rw [List.append_nil]; exact g, fun _ _ _ => rfl, fun b hb => .inl hb, fun q h1 h2 => by rw [Nat.or_zero]; exact hm q h2, fun q _ => Nat.zero_and _⟩
  · have mp : 0 < M.length := List.length_pos_iff.2 m0
    have n0 : Nat.beq M.length 0 = false := by cases h : M.length with | zero => omega | succ n => rfl
    have fM := flat_len hM
    have hk : ∀ i, 0 < i → i * sz ≥ sz := fun i hi => Nat.le_mul_of_pos_left _ hi
    rcases g with ⟨rfl, rfl⟩ | ⟨b, rfl, rfl, hb, K, hK⟩ | ⟨b, t, r, rfl, hb, hs, hK⟩ | ⟨b, t, z, g, rfl, hb, hs, hK⟩
    rotate_left 3
    · have fL := flat_len hs
      have hLM : ∀ y ∈ L ++ M, y.length = sz := fun y hy => by
        rcases List.mem_append.1 hy with hy | hy
        · exact hs y hy
        · exact hM y hy
      have hble : Nat.ble (L.length + M.length) L.length = false := by
        cases hc : Nat.ble (L.length + M.length) L.length with
        | false => rfl
        | true => have := Nat.le_of_ble_eq_true hc; omega
      have hsub : sub L.flatten 0 (L.length * sz) = some L.flatten := by
        unfold sub
        rw [Nat.ble_eq_true_of_le (by rw [fL]; omega), List.drop_zero, List.take_of_length_le (by omega)]
      have ha : appA ty sz bytes M.length (.slc b 0 L.length (some L.length)) M.flatten H nx lg = some ⟨.slc nx 0 (L.length + M.length) none, H.set nx (some ⟨ty, sz, true, true, L.flatten ++ M.flatten⟩), nx + 1, bit lg b, 0⟩ := by
        unfold appA
        rw [n0]
        simp only [hble, hf (L.length + M.length) (by omega), A.bind, rdBlk, blt_of hb, hK, hsub, A.ofOpt, newBlk, A.ret, Nat.or_zero, Nat.zero_or]
      refine ⟨_, _, _, _, _, appOp_of hlen hr ha, by simp only; omega, .inr (.inr (.inl ⟨nx, ty, [], by simp, by simp only; omega, hLM, by rw [Mem.blk_set_same]; simp⟩)), fun b hb _ => Mem.blk_set_ne _ _ _ _ (by omega), fun b hb => ?_, fun q h1 h2 => ?_, fun q _ => Nat.zero_and _⟩
      · cases hb; exact .inr (Nat.le_refl _)
      · rw [Nat.and_or_distrib_right, hm q h2, bit_and (bidne h1)]; rfl
    · have ha : appA ty sz bytes M.length .nils M.flatten H nx lg = some ⟨.slc nx 0 M.length none, H.set nx (some ⟨ty, sz, true, true, M.flatten⟩), nx + 1, 0, 0⟩ := by
        unfold appA
        rw [n0]
        simp only [hf M.length (by omega), A.bind, newBlk, A.ret, Nat.or_zero]
      refine ⟨_, _, _, _, _, appOp_of hlen hr ha, by simp only; omega, .inr (.inr (.inl ⟨nx, ty, [], by simp, by simp only; omega, hM, by rw [Mem.blk_set_same]; simp⟩)), fun b hb _ => Mem.blk_set_ne _ _ _ _ (by omega), fun b hb => ?_, fun q h1 h2 => by rw [Nat.or_zero]; exact hm q h2, fun q _ => Nat.zero_and _⟩
      cases hb; exact .inr (Nat.le_refl _)
    · have hble : Nat.ble (0 + M.length) 0 = false := by
        cases hc : Nat.ble (0 + M.length) 0 with
        | false => rfl
        | true => have := Nat.le_of_ble_eq_true hc; omega
      have hsub : sub K.cells 0 (0 * sz) = some [] := by unfold sub; rw [Nat.ble_eq_true_of_le (by simp)]; simp
      have ha : appA ty sz bytes M.length (.slc b 0 0 (some 0)) M.flatten H nx lg = some ⟨.slc nx 0 (0 + M.length) none, H.set nx (some ⟨ty, sz, true, true, [] ++ M.flatten⟩), nx + 1, bit lg b, 0⟩ := by
        unfold appA
        rw [n0]
        simp only [hble, hf (0 + M.length) (by simp), A.bind, rdBlk, blt_of hb, hK, hsub, A.ofOpt, newBlk, A.ret, Nat.or_zero, Nat.zero_or]
      refine ⟨_, _, _, _, _, appOp_of hlen hr ha, by simp only; omega, .inr (.inr (.inl ⟨nx, ty, [], by simp, by simp only; omega, hM, by rw [Mem.blk_set_same]; simp⟩)), fun b hb _ => Mem.blk_set_ne _ _ _ _ (by omega), fun b hb => ?_, fun q h1 h2 => ?_, fun q _ => Nat.zero_and _⟩
      · cases hb; exact .inr (Nat.le_refl _)
      · rw [Nat.and_or_distrib_right, hm q h2, bit_and (bidne h1)]; rfl
    · have blk1 : Nat.beq sz sz = true := Nat.beq_refl _
      have fL := flat_len hs
      have cl : (L.flatten ++ r).length = L.length * sz + r.length := by rw [List.length_append, fL]
      have hLM : ∀ y ∈ L ++ M, y.length = sz := fun y hy => by
        rcases List.mem_append.1 hy with hy | hy
        · exact hs y hy
        · exact hM y hy
      by_cases c : (L.length + M.length) * sz ≤ L.length * sz + r.length
      · have hble : Nat.ble (0 + (L.length + M.length) * sz) (L.flatten ++ r).length = true := Nat.ble_eq_true_of_le (by rw [cl]; omega)
        have e3 : lay (L.flatten ++ r) (0 + L.length * sz) M.flatten = (L ++ M).flatten ++ r.drop (M.length * sz) := by
          have e0 : 0 + L.length * sz = L.length * sz + 0 := by omega
          rw [e0, lay_skip _ _ _ _ _ fL.symm, List.flatten_append, List.append_assoc]
          unfold lay
          simp [fM]
        have e4 : Nat.beq (lay (L.flatten ++ r) (0 + L.length * sz) M.flatten).length (L.flatten ++ r).length = true := by
          rw [e3, cl, List.length_append, flat_len hLM, List.length_drop, List.length_append]
          rw [Nat.add_mul] at c ⊢
          rw [show L.length * sz + M.length * sz + (r.length - M.length * sz) = L.length * sz + r.length by omega]
          exact Nat.beq_refl _
        rw [e3] at e4
        have ha : appA ty sz bytes M.length (.slc b 0 L.length none) M.flatten H nx lg = some ⟨.slc b 0 (L.length + M.length) none, H.set b (some ⟨t, sz, true, true, (L ++ M).flatten ++ r.drop (M.length * sz)⟩), nx, bit lg b, bit lg b⟩ := by
          unfold appA
          rw [n0]
          simp only [A.bind, rdBlk, blt_of hb, hK, blk1, Bool.and_self, ho, hble, wrBlk, e3, e4, A.ret, Nat.or_zero, Nat.zero_or, Nat.or_self]
        refine ⟨_, _, _, _, _, appOp_of hlen hr ha, Nat.le_refl _, .inr (.inr (.inl ⟨b, t, r.drop (M.length * sz), by simp, hb, hLM, by rw [Mem.blk_set_same]⟩)), fun b' hb' hne => Mem.blk_set_ne _ _ _ _ (bidne hne), fun b' hb' => ?_, fun q h1 h2 => ?_, fun q h1 => bit_and (bidne h1)⟩
        · cases hb'; exact .inl rfl
        · rw [Nat.and_or_distrib_right, hm q h2, bit_and (bidne h1)]; rfl
      · have hble : Nat.ble (0 + (L.length + M.length) * sz) (L.flatten ++ r).length = false := by
          cases hc : Nat.ble (0 + (L.length + M.length) * sz) (L.flatten ++ r).length with
          | false => rfl
          | true => have := Nat.le_of_ble_eq_true hc; rw [cl] at this; omega
        have hsub : sub (L.flatten ++ r) 0 (L.length * sz) = some L.flatten := by
          unfold sub
          rw [Nat.ble_eq_true_of_le (by rw [cl]; omega), List.drop_zero, List.take_append_of_le_length (by omega), List.take_of_length_le (by omega)]
        have ha : appA ty sz bytes M.length (.slc b 0 L.length none) M.flatten H nx lg = some ⟨.slc nx 0 (L.length + M.length) none, (H.set b none).set nx (some ⟨t, sz, true, true, L.flatten ++ M.flatten⟩), nx + 1, bit lg b, bit lg b⟩ := by
          unfold appA
          rw [n0]
          simp only [A.bind, rdBlk, blt_of hb, hK, blk1, Bool.and_self, ho, hble, hf (L.length + M.length) (by omega), hsub, A.ofOpt, movBlk, A.ret, Nat.or_zero, Nat.zero_or, Nat.or_self]
        refine ⟨_, _, _, _, _, appOp_of hlen hr ha, by simp only; omega, .inr (.inr (.inl ⟨nx, t, [], by simp, by simp only; omega, hLM, by rw [Mem.blk_set_same]; simp⟩)), fun b' hb' hne => ?_, fun b' hb' => ?_, fun q h1 h2 => ?_, fun q h1 => bit_and (bidne h1)⟩
        · rw [Mem.blk_set_ne _ _ _ _ (by omega), Mem.blk_set_ne _ _ _ _ (bidne hne)]
        · cases hb'; exact .inr (Nat.le_refl _)
        · rw [Nat.and_or_distrib_right, hm q h2, bit_and (bidne h1)]; rfl
/-- One element that was just laid is appended. -/
theorem OW.push {sz : Nat} (hsz : 0 < sz) {s : AV} {H : Mem} {nx : Nat} {L : List (List AV)} (ty bytes : Nat) (g : OW sz s H nx L) (y : List AV) (hy : y.length = sz) (hf : ∀ k, k ≤ L.length + 1 → fits k bytes = true) (ho : y.all AV.one = true) (t z : Nat) (lg : Nat) :
    ∃ s' h' nx' tc wr, appOp ty sz bytes s (.slc nx 0 1 (some 1)) (H.set nx (some ⟨t, z, true, false, y⟩)) (nx + 1) lg = some ⟨s', h', nx', tc, wr⟩ ∧ nx + 1 ≤ nx' ∧ OW sz s' h' nx' (L ++ [y]) ∧ (∀ b, b < nx → bid s ≠ some b → h'.blk b = H.blk b) ∧ (∀ b, bid s' = some b → bid s = some b ∨ nx < b) ∧ (∀ q, bid s ≠ some q → nx ≠ q → tc &&& 2 ^ q = 0) ∧ (∀ q, bid s ≠ some q → wr &&& 2 ^ q = 0) := by
  have g1 : OW sz s (H.set nx (some ⟨t, z, true, false, y⟩)) (nx + 1) L := g.keep (by omega) fun b hb => Mem.blk_set_ne _ _ _ _ (by have := g.lt hb; omega)
  have gx : RD sz (.slc nx 0 1 (some 1)) (H.set nx (some ⟨t, z, true, false, y⟩)) (nx + 1) [y] := RD.lit (M := [y]) (t := t) (z := z) (o := true) (g := false) rfl (fun x hx => by rw [List.mem_singleton.1 hx]; exact hy) (by omega) (by rw [Mem.blk_set_same]; simp)
  obtain ⟨s', h', nx', tc, wr, e, n1, o1, k1, d1, t1, w1⟩ := OW.cat hsz ty bytes g1 gx (by simpa using hf) (by simpa using ho) lg
  refine ⟨s', h', nx', tc, wr, e, n1, o1, fun b hb hn => by rw [k1 b (by omega) hn, Mem.blk_set_ne _ _ _ _ (by omega)], fun b hb => ?_, fun q h1 h2 => t1 q h1 fun e => h2 (by cases e; rfl), w1⟩
  rcases d1 b hb with h | h
  · exact .inl h
  · exact .inr h

/-! ### Contracts -/
section
variable (T : FuncId → Option AF)
/-- A call that only reads. -/
def RdC (d f : Nat) (args : List AV) (h : Mem) (nx : Nat) (v : AV) : Prop := ∀ lg, lg ≤ nx → Post (xF T d f args h nx lg) fun v' h' nx' tc wr => v' = v ∧ h' = h ∧ nx' = nx ∧ wr = 0
/-- A call that makes blocks of its own, and writes nothing else; what it answers is said. -/
def NwC (d f : Nat) (args : List AV) (h : Mem) (nx : Nat) (Q : AV → Mem → Nat → Prop) : Prop := ∀ lg, lg ≤ nx → Post (xF T d f args h nx lg) fun v' h' nx' tc wr => Q v' h' nx' ∧ nx ≤ nx' ∧ (∀ q, q < nx → h'.blk q = h.blk q) ∧ ∀ q, q < nx → wr &&& 2 ^ q = 0
variable {T}
theorem RdC.at {d f : Nat} {args : List AV} {h : Mem} {nx : Nat} {v : AV} (s : RdC T d f args h nx v) (lg : Nat) (hl : lg ≤ nx) : ∃ tc, ∀ k, xF T (k + d) f args h nx lg = some ⟨v, h, nx, tc, 0⟩ := by
  obtain ⟨v', h', nx', tc, wr, e, rfl, rfl, rfl, rfl⟩ := (s lg hl).inv
  exact ⟨tc, fun k => xF_mono T (Nat.le_add_left ..) e⟩
theorem NwC.at {d f : Nat} {args : List AV} {h : Mem} {nx : Nat} {Q : AV → Mem → Nat → Prop} (s : NwC T d f args h nx Q) (lg : Nat) (hl : lg ≤ nx) : ∃ v h' nx' tc wr, (∀ k, xF T (k + d) f args h nx lg = some ⟨v, h', nx', tc, wr⟩) ∧ Q v h' nx' ∧ nx ≤ nx' ∧ (∀ q, q < nx → h'.blk q = h.blk q) ∧ ∀ q, q < nx → wr &&& 2 ^ q = 0 := by
  obtain ⟨v', h', nx', tc, wr, e, e0, e1, e2, e3⟩ := (s lg hl).inv
  exact ⟨v', h', nx', tc, wr, fun k => xF_mono T (Nat.le_add_left ..) e, e0, e1, e2, e3⟩
theorem NwC.of_rd {d f : Nat} {args : List AV} {h : Mem} {nx : Nat} {v : AV} (r : RdC T d f args h nx v) : NwC T d f args h nx fun x _ _ => x = v := fun lg hl => (r lg hl).mono fun v' h' nx' tc wr ⟨e1, e2, e3, e4⟩ => by
  subst e2; subst e3; subst e4
  exact ⟨e1, Nat.le_refl _, fun _ _ => rfl, fun q _ => Nat.zero_and _⟩
end
end Go.Proofs.YtadenjdkknakgaaE

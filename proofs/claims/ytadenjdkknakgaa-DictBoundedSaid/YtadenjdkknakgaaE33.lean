/- The engine, part 33: an element's place as a word; contracts as steps. -/
import Derived.Test.YtadenjdkknakgaaE32
namespace Go.Proofs.YtadenjdkknakgaaE
open Go Go.RowKit
set_option linter.unusedVariables false
set_option linter.unusedSimpArgs false

/-- The place of an element. -/
def islcA (sz : Nat) (x i : AV) : A AV := match x, i with
    | .slc b o n _, .int _ i => A.ofOpt ((toN n i).map fun i => .ptr b (o + i * sz))
    | _, _ => A.fail
theorem op_islc (c : FuncId → List AV → A AV) (ts : List AV) (sz : Nat) (x i : X) : opRun c ts (.islc sz x i) = islcA sz (x.ev ts) (i.ev ts) := Eq.trans rfl rfl
def lenS (v : AV) : A AV := match v with
    | .str s => A.ret (.int .i64 s.size)
    | _ => A.fail
theorem op_lens (c : FuncId → List AV → A AV) (ts : List AV) (x : X) : opRun c ts (.len true x) = lenS (x.ev ts) := Eq.trans rfl rfl
theorem lenS_str (s : ByteArray) : lenS (.str s) = A.ret (.int .i64 s.size) := Eq.trans rfl rfl
/-- An element that is read. -/
structure El (x : AV) (i : Int) (sz : Nat) (h : Mem) (nx : Nat) (y : List AV) (b o : Nat) : Prop where
  pl : islcA sz x (.int .i64 i) = A.ret (.ptr b o)
  bd : bid x = some b
  lt : b < nx
  all : ∀ lg, ldA (some sz) (.ptr b o) h nx lg = some ⟨.agg y, h, nx, bit lg b, 0⟩
  one : ∀ j v, y[j]? = some v → ∀ lg, ldA none (.ptr b (o + j)) h nx lg = some ⟨v, h, nx, bit lg b, 0⟩
theorem El.fst {x : AV} {i : Int} {sz : Nat} {h : Mem} {nx : Nat} {y : List AV} {b o : Nat} (e : El x i sz h nx y b o) {v : AV} (hv : y[0]? = some v) (lg : Nat) : ldA none (.ptr b o) h nx lg = some ⟨v, h, nx, bit lg b, 0⟩ := e.one 0 v hv lg
theorem El.keep {x : AV} {i : Int} {sz : Nat} {h h' : Mem} {nx nx' : Nat} {y : List AV} {b o : Nat} (e : El x i sz h nx y b o) (hn : nx ≤ nx') (hk : h'.blk b = h.blk b) : El x i sz h' nx' y b o := by
  have hb := blt_of e.lt
  have hb' : Nat.blt b nx' = true := blt_of (Nat.lt_of_lt_of_le e.lt hn)
  have key : ∀ n o v lg, ldA n (.ptr b o) h nx lg = some ⟨v, h, nx, bit lg b, 0⟩ → ldA n (.ptr b o) h' nx' lg = some ⟨v, h', nx', bit lg b, 0⟩ := by
    intro n o v lg g
    unfold ldA at g ⊢
    simp only [A.bind, rdBlk, hb, hb', hk] at g ⊢
    cases hc : h.blk b with
    | none => rw [hc] at g; cases g
    | some k =>
      rw [hc] at g
      simp only at g ⊢
      cases hp : partA k.cells o n with
      | none => rw [hp] at g; cases g
      | some z =>
        rw [hp] at g
        simp only [A.ofOpt, A.ret, Option.some.injEq, Rs.mk.injEq] at g ⊢
        obtain ⟨g1, g2⟩ := g
        exact ⟨g1, trivial, trivial, g2.2.2⟩
  exact ⟨e.pl, e.bd, by have := e.lt; omega, fun lg => key _ _ _ _ (e.all lg), fun j v hv lg => key _ _ _ _ (e.one j v hv lg)⟩
theorem RD.el {sz : Nat} {x : AV} {h : Mem} {nx : Nat} {L : List (List AV)} (g : RD sz x h nx L) {i : Nat} (hi : i < L.length) : ∃ b o, El x (i : Int) sz h nx L[i] b o := by
  obtain ⟨b, o, c, K, rfl, hb, hK, hs, hc⟩ := g.at hi
  refine ⟨b, o + i * sz, ?_, rfl, hb, fun lg => ld_sub hK hb hs lg, fun j v hv lg => ld_at hK hb (hc j v hv) lg⟩
  simp only [islcA, toN_nat hi, Option.map_some, A.ofOpt]

theorem flat_set {α : Type} {sz : Nat} : ∀ {l : List (List α)}, (∀ x ∈ l, x.length = sz) → ∀ {i : Nat} (hi : i < l.length) {j : Nat} (hj : j < sz) (x : α), l.flatten.set (i * sz + j) x = (l.set i (l[i].set j x)).flatten
  | [], _, i, hi, _, _, _ => absurd hi (Nat.not_lt_zero _)
  | z :: zs, h, 0, hi, j, hj, x => by
    have hz := h z (by simp)
    rw [Nat.zero_mul, Nat.zero_add, List.flatten_cons, List.set_append_left _ _ (by omega)]
    rfl
  | z :: zs, h, i + 1, hi, j, hj, x => by
    have hz := h z (by simp)
    rw [List.flatten_cons, List.set_append_right _ _ (by rw [Nat.succ_mul, hz]; omega), Nat.succ_mul, hz, show i * sz + sz + j - sz = i * sz + j by omega, flat_set (fun y hy => h y (by simp [hy])) (by simpa using hi) hj x]
    rfl
/-- An element of a row of one's own: where it lies, what it reads, how a cell of it is laid. -/
theorem OW.at {sz : Nat} {s : AV} {h : Mem} {nx : Nat} {L : List (List AV)} (g : OW sz s h nx L) {i : Nat} (hi : i < L.length) : ∃ b, bid s = some b ∧ b < nx ∧ islcA sz s (.int .i64 (i : Int)) = A.ret (.ptr b (i * sz)) ∧
    (∀ j v, L[i][j]? = some v → ∀ lg, ldA none (.ptr b (i * sz + j)) h nx lg = some ⟨v, h, nx, bit lg b, 0⟩) ∧
    ∀ j, j < sz → ∀ x, x.cells = [x] → x.one = true → ∃ H, (∀ lg, stA 1 (.ptr b (i * sz + j)) x h nx lg = some ⟨.tup [], H, nx, bit lg b, bit lg b⟩) ∧ OW sz s H nx (L.set i (L[i].set j x)) ∧ ∀ q, ¬ q = b → H.blk q = h.blk q := by
  rcases g with ⟨rfl, rfl⟩ | ⟨b, rfl, rfl, hb, K, hK⟩ | ⟨b, t, r, rfl, hb, hs, hK⟩ | ⟨b, t, z, g, rfl, hb, hs, hK⟩
  · exact absurd hi (Nat.not_lt_zero _)
  · exact absurd hi (Nat.not_lt_zero _)
  · have fl := flat_len hs
    have hle : i * sz + sz ≤ L.length * sz := by rw [← Nat.succ_mul]; exact Nat.mul_le_mul_right _ hi
    have hLi : L[i].length = sz := hs _ (List.getElem_mem hi)
    refine ⟨b, rfl, hb, ?_, fun j v hv lg => ?_, fun j hj x hx h1 => ?_⟩
    · simp only [islcA, toN_nat hi, Option.map_some, A.ofOpt, Nat.zero_add]
    · have sb : sub (L.flatten ++ r) 0 (L.length * sz) = some L.flatten := by
        unfold sub
        rw [Nat.ble_eq_true_of_le (by rw [List.length_append, fl]; omega), List.drop_zero, List.take_append_of_le_length (by omega), List.take_of_length_le (by omega)]
      have s1 := flat_cut hs (show i ≤ i + 1 by omega) (by omega) sb
      rw [show i + 1 - i = 1 by omega, Nat.one_mul, Nat.zero_add] at s1
      have h4 : ((L.drop i).take 1).flatten = L[i] := by
        rw [List.drop_eq_getElem_cons hi, List.take_succ_cons]
        simp
      rw [h4] at s1
      exact ld_at hK hb (sub_cell s1 hv) lg
    · have one : x.cells.all AV.one = true := by rw [hx]; simp only [List.all_cons, List.all_nil, h1]; rfl
      have st := fun lg => st_at hK hb (n := 1) (o := i * sz + j) x (by rw [hx]; rfl) one (by rw [List.length_append, fl]; omega) lg
      have e : lay (L.flatten ++ r) (i * sz + j) [x] = (L.set i (L[i].set j x)).flatten ++ r := by
        rw [lay_app _ _ _ _ (by rw [fl]; simp; omega), lay_one _ _ _ (by rw [fl]; omega), flat_set hs hi hj x]
      rw [hx, e] at st
      refine ⟨_, st, .inr (.inr (.inl ⟨b, t, r, by rw [List.length_set], hb, fun y hy => ?_, Mem.blk_set_same ..⟩)), fun q hq => Mem.blk_set_ne _ _ _ _ hq⟩
      rcases List.mem_or_eq_of_mem_set hy with hy | hy
      · exact hs y hy
      · rw [hy, List.length_set]; exact hLi
  · have fl := flat_len hs
    have hle : i * sz + sz ≤ L.length * sz := by rw [← Nat.succ_mul]; exact Nat.mul_le_mul_right _ hi
    have hLi : L[i].length = sz := hs _ (List.getElem_mem hi)
    refine ⟨b, rfl, hb, ?_, fun j v hv lg => ?_, fun j hj x hx h1 => ?_⟩
    · simp only [islcA, toN_nat hi, Option.map_some, A.ofOpt, Nat.zero_add]
    · have sb : sub (L.flatten) 0 (L.length * sz) = some L.flatten := by
        unfold sub
        rw [Nat.ble_eq_true_of_le (by rw [fl]; omega), List.drop_zero, List.take_of_length_le (by omega)]
      have s1 := flat_cut hs (show i ≤ i + 1 by omega) (by omega) sb
      rw [show i + 1 - i = 1 by omega, Nat.one_mul, Nat.zero_add] at s1
      have h4 : ((L.drop i).take 1).flatten = L[i] := by
        rw [List.drop_eq_getElem_cons hi, List.take_succ_cons]
        simp
      rw [h4] at s1
      exact ld_at hK hb (sub_cell s1 hv) lg
    · have one : x.cells.all AV.one = true := by rw [hx]; simp only [List.all_cons, List.all_nil, h1]; rfl
      have st := fun lg => st_at hK hb (n := 1) (o := i * sz + j) x (by rw [hx]; rfl) one (by rw [fl]; omega) lg
      have e : lay (L.flatten) (i * sz + j) [x] = (L.set i (L[i].set j x)).flatten := by
        rw [lay_one _ _ _ (by rw [fl]; omega), flat_set hs hi hj x]
      rw [hx, e] at st
      refine ⟨_, st, .inr (.inr (.inr ⟨b, t, z, g, by rw [List.length_set], hb, fun y hy => ?_, Mem.blk_set_same ..⟩)), fun q hq => Mem.blk_set_ne _ _ _ _ hq⟩
      rcases List.mem_or_eq_of_mem_set hy with hy | hy
      · exact hs y hy
      · rw [hy, List.length_set]; exact hLi
/-- A variable of its own is laid. -/
theorem st_var (h : Mem) (nx : Nat) {t : TypeId} {sz n : Nat} {g : Bool} (z xs : List AV) (hz : z.length = n) (hx : xs.length = n) (ho : xs.all AV.one = true) :
    ∃ H, (∀ lg, stA n (.ptr nx 0) (.agg xs) (h.set nx (some ⟨t, sz, true, g, z⟩)) (nx + 1) lg = some ⟨.tup [], H, nx + 1, bit lg nx, bit lg nx⟩) ∧ H.blk nx = some ⟨t, sz, true, g, xs⟩ ∧ ∀ q, q < nx → H.blk q = h.blk q :=
  ⟨_, st_new h nx z xs hz hx ho, Mem.blk_set_same .., fun q hq => Mem.blk_set_ne _ _ _ _ (by omega)⟩
theorem condP_cut {α : Type} {b : Bool} {x y : Option (Rs α)} {Q I : α → Mem → Nat → Nat → Nat → Prop} (hA : b = true → Post x I) (hB : b = false → Post y I) (f : ∀ v h n tc wr, I v h n tc wr → Q v h n tc wr) : condP (.bool b) (Post x Q) (Post y Q) := by
  cases b
  · rw [condP_f]; exact (hB rfl).mono f
  · rw [condP_t]; exact (hA rfl).mono f
theorem Post.at {α : Type} {o : Option (Rs α)} {Q : α → Mem → Nat → Nat → Nat → Prop} {v : α} {h : Mem} {n tc wr : Nat} (e : o = Option.some ⟨v, h, n, tc, wr⟩) (q : Q v h n tc wr) : Post o Q := Post.of e q
section
variable {T : FuncId → Option AF}
theorem RdC.post {d f : Nat} {args : List AV} {h : Mem} {nx : Nat} {v : AV} (s : RdC T d f args h nx v) {n lg : Nat} (hn : d ≤ n) (hl : lg ≤ nx) {R : AV → Mem → Nat → Nat → Nat → Prop} (k : ∀ tc, R v h nx tc 0) : Post (xF T n f args h nx lg) R := by
  obtain ⟨tc, e⟩ := s.at lg hl
  obtain ⟨j, rfl⟩ : ∃ j, n = j + d := ⟨n - d, by omega⟩
  exact Post.of (e j) (k tc)
theorem NwC.post {d f : Nat} {args : List AV} {h : Mem} {nx : Nat} {Q : AV → Mem → Nat → Prop} (s : NwC T d f args h nx Q) {n lg : Nat} (hn : d ≤ n) (hl : lg ≤ nx) {R : AV → Mem → Nat → Nat → Nat → Prop}
    (k : ∀ v h' nx' tc wr, Q v h' nx' → nx ≤ nx' → (∀ q, q < nx → h'.blk q = h.blk q) → (∀ q, q < nx → wr &&& 2 ^ q = 0) → R v h' nx' tc wr) : Post (xF T n f args h nx lg) R := by
  obtain ⟨v, h', nx', tc, wr, e, q, n1, k1, w1⟩ := s.at lg hl
  obtain ⟨j, rfl⟩ : ∃ j, n = j + d := ⟨n - d, by omega⟩
  exact Post.of (e j) (k _ _ _ _ _ q n1 k1 w1)
theorem Post_up {d n f : Nat} {args : List AV} {h : Mem} {nx lg : Nat} {Q : AV → Mem → Nat → Nat → Nat → Prop} (hn : d ≤ n) (p : Post (xF T d f args h nx lg) Q) : Post (xF T n f args h nx lg) Q := by
  obtain ⟨v, h', nx', tc, wr, e, q⟩ := p.inv
  exact Post.of (xF_mono T hn e) q
theorem NwC.mono {d f : Nat} {args : List AV} {h : Mem} {nx : Nat} {Q Q' : AV → Mem → Nat → Prop} (s : NwC T d f args h nx Q) (g : ∀ v h' nx', Q v h' nx' → nx ≤ nx' → (∀ q, q < nx → h'.blk q = h.blk q) → Q' v h' nx') : NwC T d f args h nx Q' :=
  fun lg hl => (s lg hl).mono fun v h' nx' tc wr ⟨q, a, b, c⟩ => ⟨g _ _ _ q a b, a, b, c⟩
/-- No marks from the watch on. -/
theorem hi_of {n f : Nat} {args : List AV} {h : Mem} {nx lg : Nat} {r : Rs AV} (hl : lg ≤ nx) (e : xF T n f args h nx lg = some r) : ∀ q, lg ≤ q → r.tc &&& 2 ^ q = 0 ∧ r.wr &&& 2 ^ q = 0 := by
  have F := Foot.fn T n f args h nx lg r hl e
  have z : ∀ m q : Nat, m.testBit q = false → m &&& 2 ^ q = 0 := fun m q hm => by
    apply Nat.eq_of_testBit_eq; intro i
    rw [Nat.testBit_and, Nat.testBit_two_pow, Nat.zero_testBit]
    by_cases c : q = i
    · subst c; rw [hm]; rfl
    · simp [c]
  intro q hq
  have t : r.tc.testBit q = false := by
    cases c : r.tc.testBit q with
    | false => rfl
    | true => have := F.low q c; omega
  refine ⟨z _ _ t, z _ _ ?_⟩
  cases c : r.wr.testBit q with
  | false => rfl
  | true => rw [F.sub q c] at t; cases t
theorem Post_hi {n f : Nat} {args : List AV} {h : Mem} {nx lg : Nat} {Q : AV → Mem → Nat → Nat → Nat → Prop} (hl : lg ≤ nx) (p : Post (xF T n f args h nx lg) Q) : Post (xF T n f args h nx lg) fun v h' nx' tc wr => Q v h' nx' tc wr ∧ ∀ q, lg ≤ q → tc &&& 2 ^ q = 0 ∧ wr &&& 2 ^ q = 0 := by
  obtain ⟨v, h', nx', tc, wr, e, q⟩ := p.inv
  exact Post.of e ⟨q, hi_of hl e⟩
theorem and_zero {x y : Nat} (h : ∀ q, x &&& 2 ^ q = 0 ∨ y &&& 2 ^ q = 0) : x &&& y = 0 := by
  apply Nat.eq_of_testBit_eq; intro i
  rw [Nat.testBit_and, Nat.zero_testBit]
  have z : ∀ m : Nat, m &&& 2 ^ i = 0 → m.testBit i = false := fun m hm => by
    have := congrArg (fun k => Nat.testBit k i) hm
    simpa [Nat.testBit_and, Nat.testBit_two_pow] using this
  rcases h i with h | h
  · rw [z _ h]; rfl
  · rw [z _ h, Bool.and_false]
theorem new_hi {a b q : Nat} (h : b ≤ q) : (2 ^ b - 2 ^ a) &&& 2 ^ q = 0 := by
  have h1 : 2 ^ b - 2 ^ a < 2 ^ q := by
    have := Nat.pow_le_pow_right (show 0 < 2 by omega) h
    have := Nat.two_pow_pos a
    have := Nat.two_pow_pos q
    omega
  apply Nat.eq_of_testBit_eq; intro i
  rw [Nat.testBit_and, Nat.testBit_two_pow, Nat.zero_testBit]
  by_cases c : q = i
  · subst c; rw [Nat.testBit_lt_two_pow h1]; rfl
  · simp [c]
theorem ap1 {m a b q : Nat} (h1 : m &&& 2 ^ q = 0) (h2 : (2 ^ b - 2 ^ a) &&& 2 ^ q = 0) : (m ||| 2 ^ b - 2 ^ a) &&& 2 ^ q = 0 := by rw [Nat.and_or_distrib_right, h1, h2]; rfl
theorem ap2 {m a b q : Nat} (h1 : m &&& 2 ^ q = 0) (h2 : (2 ^ b - 2 ^ a) &&& 2 ^ q = 0) : 2 ^ q &&& (m ||| 2 ^ b - 2 ^ a) = 0 := by rw [Nat.and_comm]; exact ap1 h1 h2
theorem ap3 {m a b q lg : Nat} (h1 : m &&& 2 ^ q = 0) (h2 : (2 ^ b - 2 ^ a) &&& 2 ^ q = 0) : bit lg q &&& (m ||| 2 ^ b - 2 ^ a) = 0 := by
  unfold bit
  cases Nat.blt q lg
  · exact Nat.zero_and _
  · exact ap2 h1 h2
end
end Go.Proofs.YtadenjdkknakgaaE

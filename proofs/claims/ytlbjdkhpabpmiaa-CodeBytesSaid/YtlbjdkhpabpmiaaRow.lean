/- Code: words for loads; rows of bytes (Frame's rows turned to bytes, printed by gencode). -/
import Derived.Test.YtlbjdkhpabpmiaaT
import Derived.Test.YtlbjdkhpabpmiaaB
import Derived.Test.YtlbjdkhpabpmiaaE29
namespace Go.Proofs.YtlbjdkhpabpmiaaT
open Go Go.Proofs.YtlbjdkhpabpmiaaE Go.Proofs.YtlbjdkhpabpmiaaB
set_option linter.unusedSimpArgs false
set_option linter.unusedVariables false
attribute [local congr] Post_cg PostL_cg condP_cg
def ldA (n : Option Nat) (a : AV) : A AV := match a with
    | .ptr b o => A.bind (rdBlk b) fun k => A.ofOpt (partA k.cells o n)
    | _ => A.fail
theorem op_load (c : FuncId → List AV → A AV) (ts : List AV) (n : Option Nat) (a : X) : opRun c ts (.load n a) = ldA n (a.ev ts) := Eq.trans rfl rfl
def stA (n : Nat) (a x : AV) : A AV := match a with
    | .ptr b o => match Nat.beq x.cells.length n && x.cells.all AV.one with
      | true => A.bind (rdBlk b) fun k => match Nat.ble (o + n) k.cells.length with
        | true => A.bind (wrBlk b (lay k.cells o x.cells)) fun _ => A.ret (.tup [])
        | false => A.fail
      | false => A.fail
    | _ => A.fail
theorem op_store (c : FuncId → List AV → A AV) (ts : List AV) (n : Nat) (a x : X) : opRun c ts (.store n a x) = stA n (a.ev ts) (x.ev ts) := Eq.trans rfl rfl
theorem want_sl (ts : List AV) (t : Nat) (w b : Bool) (h : sl ts t = .bool b) : wantA ts (some (t, w)) = (b == w) := by rw [want_some, h]
theorem step_t {c : FuncId → List AV → A AV} {ts : List AV} {d : Option Nat} {t : Nat} {op : AOp} (h : sl ts t = .bool true) : stepR c ts ⟨d, some (t, true), op⟩ = opRun c ts op := by
  unfold stepR; rw [want_sl ts t true true h]; rfl
theorem step_f {c : FuncId → List AV → A AV} {ts : List AV} {d : Option Nat} {t : Nat} {op : AOp} (h : sl ts t = .bool false) : stepR c ts ⟨d, some (t, false), op⟩ = opRun c ts op := by
  unfold stepR; rw [want_sl ts t false false h]; rfl
theorem step_nt {c : FuncId → List AV → A AV} {ts : List AV} {d : Option Nat} {t : Nat} {op : AOp} (h : sl ts t = .bool false) : stepR c ts ⟨d, some (t, true), op⟩ = A.ret (.tup []) := by
  unfold stepR; rw [want_sl ts t true false h]; rfl
theorem step_nf {c : FuncId → List AV → A AV} {ts : List AV} {d : Option Nat} {t : Nat} {op : AOp} (h : sl ts t = .bool true) : stepR c ts ⟨d, some (t, false), op⟩ = A.ret (.tup []) := by
  unfold stepR; rw [want_sl ts t false true h]; rfl
theorem ld_at {h : Mem} {nx b : Nat} {k : Blk} (hb : h.blk b = some k) (hn : b < nx) {o : Nat} {v : AV} (hv : k.cells[o]? = some v) (lg : Nat) : ldA none (.ptr b o) h nx lg = some ⟨v, h, nx, bit lg b, 0⟩ := by
  unfold ldA
  simp only [A.bind, rdBlk, blt_of hn, hb, partA, hv, A.ofOpt, A.ret, Nat.or_zero]
theorem ld_sub {h : Mem} {nx b : Nat} {k : Blk} (hb : h.blk b = some k) (hn : b < nx) {o n : Nat} {vs : List AV} (hv : sub k.cells o n = some vs) (lg : Nat) : ldA (some n) (.ptr b o) h nx lg = some ⟨.agg vs, h, nx, bit lg b, 0⟩ := by
  unfold ldA
  simp only [A.bind, rdBlk, blt_of hn, hb, partA, hv, Option.map_some, A.ofOpt, A.ret, Nat.or_zero]
theorem st_at {h : Mem} {nx b : Nat} {t : TypeId} {sz : Nat} {g : Bool} {cs : List AV} (hb : h.blk b = some ⟨t, sz, true, g, cs⟩) (hn : b < nx) {n o : Nat} (x : AV) (hx : x.cells.length = n) (ho : x.cells.all AV.one = true) (hl : o + n ≤ cs.length) (lg : Nat) :
    stA n (.ptr b o) x h nx lg = some ⟨.tup [], h.set b (some ⟨t, sz, true, g, lay cs o x.cells⟩), nx, bit lg b, bit lg b⟩ := by
  unfold stA
  have e1 : Nat.beq x.cells.length n = true := by rw [hx]; exact Nat.beq_refl n
  have e2 : Nat.ble (o + n) cs.length = true := Nat.ble_eq_true_of_le hl
  have e3 : (lay cs o x.cells).length = cs.length := by
    unfold lay
    simp only [List.length_append, List.length_take, List.length_drop]
    omega
  have e4 : Nat.beq (lay cs o x.cells).length cs.length = true := by rw [e3]; exact Nat.beq_refl _
  simp only [e1, ho, Bool.and_true, A.bind, rdBlk, blt_of hn, hb, e2, wrBlk, e4, Bool.true_and, A.ret, Nat.or_zero, Nat.zero_or, Nat.or_self]
def u8s (l : List Int) : List AV := l.map fun x => .int .u8 x
theorem u8s_len (l : List Int) : (u8s l).length = l.length := by unfold u8s; simp
theorem u8s_at {l : List Int} {i : Nat} (h : i < l.length) : (u8s l)[i]? = some (.int .u8 l[i]) := by unfold u8s; rw [List.getElem?_map, List.getElem?_eq_getElem h]; rfl
theorem u8s_one (l : List Int) : (u8s l).all AV.one = true := by unfold u8s; simp [AV.one]
theorem u8s_app (l m : List Int) : u8s (l ++ m) = u8s l ++ u8s m := by unfold u8s; simp

/-! ### A row that is of one alone -/
def OR (s : AV) (h : Mem) (nx : Nat) (l : List Int) : Prop :=
  (s = .nils ∧ l = []) ∨ (∃ b, s = .slc b 0 0 (some 0) ∧ l = [] ∧ b < nx ∧ ∃ K, h.blk b = some K) ∨ ∃ b t r, s = .slc b 0 l.length none ∧ b < nx ∧ h.blk b = some ⟨t, 1, true, true, u8s l ++ r⟩
/-- Its block. -/
def bid : AV → Option Nat
  | .slc b _ _ _ => some b
  | _ => none
theorem OR.rv {s : AV} {h : Mem} {nx : Nat} {l : List Int} (g : OR s h nx l) : RV 1 l.length s h 0 nx (u8s l) := by
  rcases g with ⟨rfl, rfl⟩ | ⟨b, rfl, rfl, hb, K, hK⟩ | ⟨b, t, r, rfl, hb, hK⟩
  · exact .inl ⟨rfl, rfl, rfl⟩
  · exact .inr ⟨b, 0, _, K, by omega, hb, rfl, hK, by unfold sub; rw [Nat.ble_eq_true_of_le (by simp)]; simp [u8s]⟩
  · refine .inr ⟨b, 0, _, _, by omega, hb, rfl, hK, ?_⟩
    unfold sub
    rw [Nat.ble_eq_true_of_le (by simp [u8s_len])]
    simp only [Nat.mul_one, List.drop_zero]
    rw [List.take_append_of_le_length (by rw [u8s_len]; exact Nat.le_refl _), List.take_of_length_le (by rw [u8s_len]; exact Nat.le_refl _)]
theorem OR.keep {s : AV} {h h' : Mem} {nx nx' : Nat} {l : List Int} (g : OR s h nx l) (hn : nx ≤ nx') (e : ∀ b, bid s = some b → h'.blk b = h.blk b) : OR s h' nx' l := by
  rcases g with ⟨rfl, rfl⟩ | ⟨b, rfl, rfl, hb, K, hK⟩ | ⟨b, t, r, rfl, hb, hK⟩
  · exact .inl ⟨rfl, rfl⟩
  · exact .inr (.inl ⟨b, rfl, rfl, by omega, K, (e b rfl).trans hK⟩)
  · exact .inr (.inr ⟨b, t, r, rfl, by omega, (e b rfl).trans hK⟩)
theorem OR.lt {s : AV} {h : Mem} {nx : Nat} {l : List Int} (g : OR s h nx l) {b : Nat} (hb : bid s = some b) : b < nx := by
  rcases g with ⟨rfl, rfl⟩ | ⟨c, rfl, rfl, hc, _⟩ | ⟨c, t, r, rfl, hc, _⟩
  · cases hb
  · cases hb; exact hc
  · cases hb; exact hc
theorem OR.form {s : AV} {h : Mem} {nx : Nat} {l : List Int} (g : OR s h nx l) : (s = .nils ∧ l = []) ∨ ∃ b c, s = .slc b 0 l.length c := by
  rcases g with ⟨rfl, rfl⟩ | ⟨c, rfl, rfl, hc, _⟩ | ⟨c, t, r, rfl, hc, _⟩
  · exact .inl ⟨rfl, rfl⟩
  · exact .inr ⟨_, _, rfl⟩
  · exact .inr ⟨_, _, rfl⟩
theorem OR.lenOp {s : AV} {h : Mem} {nx : Nat} {l : List Int} (g : OR s h nx l) : lenOp s = A.ret (.int .i64 l.length) := g.rv.lenOp
theorem bit_and {lg a b : Nat} (h : b ≠ a) : bit lg a &&& 2 ^ b = 0 := by
  unfold bit
  cases Nat.blt a lg
  · exact Nat.zero_and _
  · exact and_pow (Ne.symm h)
theorem bidne {b q o n : Nat} {c : Option Nat} (h : bid (.slc b o n c) ≠ some q) : q ≠ b := fun e => h (by rw [e]; rfl)
theorem read_b {x : AV} {H : Mem} {nx : Nat} {m : List Int} (gx : RV 1 m.length x H 0 nx (u8s m)) (lg : Nat) : ∃ msk, rdEls 1 m.length x H nx lg = some ⟨u8s m, H, nx, msk, 0⟩ ∧ ∀ q, bid x ≠ some q → msk &&& 2 ^ q = 0 := by
  rcases gx with ⟨rfl, h1, h2⟩ | ⟨b, o, c, K, _, h1, rfl, h2, h3⟩
  · refine ⟨0, ?_, fun q _ => Nat.zero_and _⟩
    unfold rdEls
    rw [h1, h2]
    rfl
  · refine ⟨bit lg b, ?_, fun q hq => bit_and (bidne hq)⟩
    have hb : Nat.ble m.length m.length = true := Nat.ble_eq_true_of_le (Nat.le_refl _)
    simp only [rdEls, hb, A.bind, rdBlk, blt_of h1, h2, h3, A.ofOpt, A.ret, Nat.or_zero]
theorem appOp_of {ty sz bytes : Nat} {s x : AV} {H : Mem} {nx lg n : Nat} {m : List AV} {msk : Nat} {r : Rs AV} (hl : lenA x = some n) (hr : rdEls sz n x H nx lg = some ⟨m, H, nx, msk, 0⟩) (ha : appA ty sz bytes n s m H nx lg = some r) : appOp ty sz bytes s x H nx lg = some ⟨r.v, r.h, r.nx, msk ||| r.tc, r.wr⟩ := by
  unfold appOp
  rw [hl]
  unfold A.bind
  simp only [hr, ha, Nat.zero_or]
theorem cat_or {s : AV} {H : Mem} {nx : Nat} {l : List Int} (g : OR s H nx l) {x : AV} {m : List Int} (gx : RV 1 m.length x H 0 nx (u8s m)) (hl : l.length + m.length ≤ 1000) (lg : Nat) :
    ∃ s' h' nx' tc wr, appOp 5 1 1 s x H nx lg = some ⟨s', h', nx', tc, wr⟩ ∧ nx ≤ nx' ∧ OR s' h' nx' (l ++ m) ∧ (∀ b, b < nx → bid s ≠ some b → h'.blk b = H.blk b) ∧ (∀ b, bid s' = some b → bid s = some b ∨ nx ≤ b) ∧ (∀ q, bid s ≠ some q → bid x ≠ some q → tc &&& 2 ^ q = 0) ∧ (∀ q, bid s ≠ some q → wr &&& 2 ^ q = 0) := by
  obtain ⟨msk, hr, hm⟩ := read_b gx lg
  have hlen := gx.lenA
  by_cases m0 : m = []
  · subst m0
    have ha : appA 5 1 1 0 s [] H nx lg = some ⟨s, H, nx, 0, 0⟩ := by
      rcases g with ⟨rfl, rfl⟩ | ⟨b, rfl, rfl, hb, K, hK⟩ | ⟨b, t, r, rfl, hb, hK⟩ <;> rfl
    exact ⟨_, _, _, _, _, appOp_of hlen hr ha, Nat.le_refl _, by rw [List.append_nil]; exact g, fun _ _ _ => rfl, fun b hb => .inl hb, fun q h1 h2 => by rw [Nat.or_zero]; exact hm q h2, fun q _ => Nat.zero_and _⟩
  · have mp : 0 < m.length := List.length_pos_iff.2 m0
    have n0 : Nat.beq m.length 0 = false := by cases h : m.length with | zero => omega | succ n => rfl
    have hf : ∀ k, k ≤ 1000 → fits k 1 = true := fun k hk => fits_few (by omega) (by omega)
    have one := u8s_one m
    rcases g with ⟨rfl, rfl⟩ | ⟨b, rfl, rfl, hb, K, hK⟩ | ⟨b, t, r, rfl, hb, hK⟩
    · have ha : appA 5 1 1 m.length .nils (u8s m) H nx lg = some ⟨.slc nx 0 m.length none, H.set nx (some ⟨5, 1, true, true, u8s m⟩), nx + 1, 0, 0⟩ := by
        unfold appA
        rw [n0]
        simp only [hf m.length (by omega), A.bind, newBlk, A.ret, Nat.or_zero]
      refine ⟨_, _, _, _, _, appOp_of hlen hr ha, by simp only; omega, .inr (.inr ⟨nx, 5, [], by simp, by simp only; omega, by rw [Mem.blk_set_same]; simp⟩), fun b hb _ => Mem.blk_set_ne _ _ _ _ (by omega), fun b hb => ?_, fun q h1 h2 => by rw [Nat.or_zero]; exact hm q h2, fun q _ => Nat.zero_and _⟩
      cases hb; exact .inr (Nat.le_refl _)
    · have hble : Nat.ble (0 + m.length) 0 = false := by
        cases hc : Nat.ble (0 + m.length) 0 with
        | false => rfl
        | true => have := Nat.le_of_ble_eq_true hc; omega
      have hsub : sub K.cells 0 (0 * 1) = some [] := by unfold sub; rw [Nat.ble_eq_true_of_le (by simp)]; simp
      have ha : appA 5 1 1 m.length (.slc b 0 0 (some 0)) (u8s m) H nx lg = some ⟨.slc nx 0 (0 + m.length) none, H.set nx (some ⟨5, 1, true, true, [] ++ u8s m⟩), nx + 1, bit lg b, 0⟩ := by
        unfold appA
        rw [n0]
        simp only [hble, hf (0 + m.length) (by omega), A.bind, rdBlk, blt_of hb, hK, hsub, A.ofOpt, newBlk, A.ret, Nat.or_zero, Nat.zero_or]
      refine ⟨_, _, _, _, _, appOp_of hlen hr ha, by simp only; omega, .inr (.inr ⟨nx, 5, [], by simp, by simp only; omega, by rw [Mem.blk_set_same]; simp⟩), fun b hb _ => Mem.blk_set_ne _ _ _ _ (by omega), fun b hb => ?_, fun q h1 h2 => ?_, fun q _ => Nat.zero_and _⟩
      · cases hb; exact .inr (Nat.le_refl _)
      · rw [Nat.and_or_distrib_right, hm q h2, bit_and (bidne h1)]; rfl
    · have blk1 : Nat.beq 1 1 = true := rfl
      have cl : (u8s l ++ r).length = l.length + r.length := by simp [u8s_len]
      by_cases c : l.length + m.length ≤ l.length + r.length
      · have hble : Nat.ble (0 + (l.length + m.length) * 1) (u8s l ++ r).length = true := Nat.ble_eq_true_of_le (by rw [cl]; omega)
        have e3 : lay (u8s l ++ r) (0 + l.length * 1) (u8s m) = u8s (l ++ m) ++ r.drop m.length := by
          rw [Nat.zero_add, Nat.mul_one, show l.length = l.length + 0 from rfl, lay_skip _ _ _ _ _ (u8s_len l).symm, u8s_app, List.append_assoc]
          unfold lay
          simp [u8s_len]
        have e4 : Nat.beq (lay (u8s l ++ r) (0 + l.length * 1) (u8s m)).length (u8s l ++ r).length = true := by
          rw [e3, cl]
          simp only [List.length_append, u8s_len, List.length_drop]
          rw [show l.length + m.length + (r.length - m.length) = l.length + r.length by omega]
          exact Nat.beq_refl _
        rw [e3] at e4
        have ha : appA 5 1 1 m.length (.slc b 0 l.length none) (u8s m) H nx lg = some ⟨.slc b 0 (l.length + m.length) none, H.set b (some ⟨t, 1, true, true, u8s (l ++ m) ++ r.drop m.length⟩), nx, bit lg b, bit lg b⟩ := by
          unfold appA
          rw [n0]
          simp only [A.bind, rdBlk, blt_of hb, hK, blk1, Bool.and_self, one, hble, wrBlk, e3, e4, A.ret, Nat.or_zero, Nat.zero_or, Nat.or_self]
        refine ⟨_, _, _, _, _, appOp_of hlen hr ha, Nat.le_refl _, .inr (.inr ⟨b, t, r.drop m.length, by simp, hb, by rw [Mem.blk_set_same]⟩), fun b' hb' hne => Mem.blk_set_ne _ _ _ _ (bidne hne), fun b' hb' => ?_, fun q h1 h2 => ?_, fun q h1 => bit_and (bidne h1)⟩
        · cases hb'; exact .inl rfl
        · rw [Nat.and_or_distrib_right, hm q h2, bit_and (bidne h1)]; rfl
      · have hble : Nat.ble (0 + (l.length + m.length) * 1) (u8s l ++ r).length = false := by
          cases hc : Nat.ble (0 + (l.length + m.length) * 1) (u8s l ++ r).length with
          | false => rfl
          | true => have := Nat.le_of_ble_eq_true hc; rw [cl] at this; omega
        have hsub : sub (u8s l ++ r) 0 (l.length * 1) = some (u8s l) := by
          unfold sub
          rw [Nat.ble_eq_true_of_le (by rw [cl]; omega), Nat.mul_one, List.drop_zero, List.take_append_of_le_length (by rw [u8s_len]; exact Nat.le_refl _), List.take_of_length_le (by rw [u8s_len]; exact Nat.le_refl _)]
        have ha : appA 5 1 1 m.length (.slc b 0 l.length none) (u8s m) H nx lg = some ⟨.slc nx 0 (l.length + m.length) none, (H.set b none).set nx (some ⟨t, 1, true, true, u8s l ++ u8s m⟩), nx + 1, bit lg b, bit lg b⟩ := by
          unfold appA
          rw [n0]
          simp only [A.bind, rdBlk, blt_of hb, hK, blk1, Bool.and_self, one, hble, hf (l.length + m.length) (by omega), hsub, A.ofOpt, movBlk, A.ret, Nat.or_zero, Nat.zero_or, Nat.or_self]
        refine ⟨_, _, _, _, _, appOp_of hlen hr ha, by simp only; omega, .inr (.inr ⟨nx, t, [], by simp, by simp only; omega, by rw [Mem.blk_set_same, u8s_app]; simp⟩), fun b' hb' hne => ?_, fun b' hb' => ?_, fun q h1 h2 => ?_, fun q h1 => bit_and (bidne h1)⟩
        · rw [Mem.blk_set_ne _ _ _ _ (by omega), Mem.blk_set_ne _ _ _ _ (bidne hne)]
        · cases hb'; exact .inr (Nat.le_refl _)
        · rw [Nat.and_or_distrib_right, hm q h2, bit_and (bidne h1)]; rfl
/-- An empty row that is made. -/
theorem or_new (h : Mem) (nx : Nat) : OR (.slc nx 0 0 (some 0)) (h.set nx (some ⟨5, 1, true, false, []⟩)) (nx + 1) [] := .inr (.inl ⟨nx, rfl, rfl, by omega, _, Mem.blk_set_same ..⟩)
theorem rv_keep {x : AV} {h h' : Mem} {nx nx' : Nat} {m : List Int} (g : RV 1 m.length x h 0 nx (u8s m)) (hn : nx ≤ nx') (e : ∀ b, b < nx → bid x = some b → h'.blk b = h.blk b) : RV 1 m.length x h' 0 nx' (u8s m) := by
  rcases g with g | ⟨b, o, c, K, h1, h2, rfl, h4, h5⟩
  · exact .inl g
  · exact .inr ⟨b, o, c, K, h1, by omega, rfl, by rw [e b h2 rfl]; exact h4, h5⟩
theorem rv_lit {h : Mem} {nx b : Nat} {t : TypeId} {o g : Bool} {m : List Int} (hb : b < nx) (e : h.blk b = some ⟨t, 1, o, g, u8s m⟩) (c : Option Nat) : RV 1 m.length (.slc b 0 m.length c) h 0 nx (u8s m) := by
  refine .inr ⟨b, 0, c, _, by omega, hb, rfl, e, ?_⟩
  unfold sub
  rw [Nat.ble_eq_true_of_le (by simp [u8s_len])]
  simp [u8s_len]
  exact List.take_of_length_le (by rw [u8s_len]; exact Nat.le_refl _)
theorem clip_or {s : AV} {h : Mem} {nx : Nat} {l : List Int} (g : OR s h nx l) (lg : Nat) : ∃ v tc, (∀ k, xF T (k + 20) 27 [s] h nx lg = some ⟨v, h, nx, tc, 0⟩) ∧ RV 1 l.length v h 0 nx (u8s l) ∧ (∀ b, bid v = some b → bid s = some b) ∧ (∀ q, bid s ≠ some q → tc &&& 2 ^ q = 0) ∧ (v = .nils ∨ ∃ b n, v = .slc b 0 n (some n)) := by
  have ll := g.lenOp
  have rv := g.rv
  rcases g with ⟨rfl, rfl⟩ | ⟨b, rfl, rfl, hb, K, hK⟩ | ⟨b, t, r, rfl, hb, hK⟩
  · refine ⟨.nils, 0, fun k => ?_, .inl ⟨rfl, rfl, rfl⟩, fun b hb => hb, fun q _ => Nat.zero_and _, .inl rfl⟩
    rw [xF_fr T27]; apply eq_of_Post
    simp (maxSteps := 4000000) [↓step_none, ↓step_t, ↓step_f, ↓step_nt, ↓step_nf, ↓op_load, ↓op_store, ↓op_slice, ↓op_app, ↓P_skip, ↓P_exit, ↓P_ret, ↓P_seq, ↓P_cond, ↓P_blk, ↓P_reg, ↓P_draw, ↓P_nil, ↓P_cons, condP_t, condP_f, dum_ab, stepR, want_none, want_some, opRun, ev_t, ev_c, put_none, put_some, resAll, res_tmp, res_cell, oneOf, minI, maxI, min2A, max2A, mn2, mx2, mx3, rdBlk, wrBlk, newBlk, partA, abin, ibin, isShift, AV.cells, AV.one, lay, sub, fillA, lenA, toN, allApart, apartFrom, Nat.testBit, Mem.blk_set_same, Mem.blk_set_ne, Mem.set_set, bit_zero, bit_self, lowBits_or, lowBits_zero, len_setT, sl_same, sl_ne, len_frame, sl_frame,↓op_len, lenOp_slc, lenOp_nils, ↓Post.some, ↓Post_bind, ↓Post_ret, ↓Post_draw, ↓PostL_nil, ↓PostL_cons, Post_fail, ofOpt_some, ofOpt_none, eA_b, eA_i, eA_s, eA_nn, eA_np, eA_pn, eA_lnn, eA_lnp, eA_lpn, eA_i2, eA_i3, blt_dec, Nat.add_assoc, keeps_refl, keeps_at, keeps_up, new_one, and_pow, bit_hi, lowBits_pow, ble_dec, fr_refl, fr_at, fr_up, fr_p, dum_ab, F27, sliceA, bnd, toNle]
  · refine ⟨.slc b 0 0 (some 0), 0, fun k => ?_, rv, fun b hb => hb, fun q _ => Nat.zero_and _, .inr ⟨b, 0, rfl⟩⟩
    rw [xF_fr T27]; apply eq_of_Post
    simp (maxSteps := 4000000) [↓step_none, ↓step_t, ↓step_f, ↓step_nt, ↓step_nf, ↓op_load, ↓op_store, ↓op_slice, ↓op_app, ↓P_skip, ↓P_exit, ↓P_ret, ↓P_seq, ↓P_cond, ↓P_blk, ↓P_reg, ↓P_draw, ↓P_nil, ↓P_cons, condP_t, condP_f, dum_ab, stepR, want_none, want_some, opRun, ev_t, ev_c, put_none, put_some, resAll, res_tmp, res_cell, oneOf, minI, maxI, min2A, max2A, mn2, mx2, mx3, rdBlk, wrBlk, newBlk, partA, abin, ibin, isShift, AV.cells, AV.one, lay, sub, fillA, lenA, toN, allApart, apartFrom, Nat.testBit, Mem.blk_set_same, Mem.blk_set_ne, Mem.set_set, bit_zero, bit_self, lowBits_or, lowBits_zero, len_setT, sl_same, sl_ne, len_frame, sl_frame,↓op_len, lenOp_slc, lenOp_nils, ↓Post.some, ↓Post_bind, ↓Post_ret, ↓Post_draw, ↓PostL_nil, ↓PostL_cons, Post_fail, ofOpt_some, ofOpt_none, eA_b, eA_i, eA_s, eA_nn, eA_np, eA_pn, eA_lnn, eA_lnp, eA_lpn, eA_i2, eA_i3, blt_dec, Nat.add_assoc, keeps_refl, keeps_at, keeps_up, new_one, and_pow, bit_hi, lowBits_pow, ble_dec, fr_refl, fr_at, fr_up, fr_p, dum_ab, F27, sliceA, bnd, toNle]
  · refine ⟨.slc b 0 l.length (some l.length), bit lg b, fun k => ?_, ?_, fun b hb => hb, fun q hq => bit_and (bidne hq), .inr ⟨b, _, rfl⟩⟩
    · have e1 : l.length ≤ (u8s l ++ r).length := by simp [u8s_len]
      have e1' : (l.length : Int) ≤ ((u8s l ++ r).length : Int) := by omega
      generalize (u8s l ++ r) = cs at *
      generalize l.length = n at *
      have c0 : (0 : Int) ≤ (n : Int) := by omega
      rw [xF_fr T27]; apply eq_of_Post
      simp (maxSteps := 4000000) [↓step_none, ↓step_t, ↓step_f, ↓step_nt, ↓step_nf, ↓op_load, ↓op_store, ↓op_slice, ↓op_app, ↓P_skip, ↓P_exit, ↓P_ret, ↓P_seq, ↓P_cond, ↓P_blk, ↓P_reg, ↓P_draw, ↓P_nil, ↓P_cons, condP_t, condP_f, dum_ab, stepR, want_none, want_some, opRun, ev_t, ev_c, put_none, put_some, resAll, res_tmp, res_cell, oneOf, minI, maxI, min2A, max2A, mn2, mx2, mx3, rdBlk, wrBlk, newBlk, partA, abin, ibin, isShift, AV.cells, AV.one, lay, sub, fillA, lenA, toN, allApart, apartFrom, Nat.testBit, Mem.blk_set_same, Mem.blk_set_ne, Mem.set_set, bit_zero, bit_self, lowBits_or, lowBits_zero, len_setT, sl_same, sl_ne, len_frame, sl_frame,↓op_len, lenOp_slc, lenOp_nils, ↓Post.some, ↓Post_bind, ↓Post_ret, ↓Post_draw, ↓PostL_nil, ↓PostL_cons, Post_fail, ofOpt_some, ofOpt_none, eA_b, eA_i, eA_s, eA_nn, eA_np, eA_pn, eA_lnn, eA_lnp, eA_lpn, eA_i2, eA_i3, blt_dec, Nat.add_assoc, keeps_refl, keeps_at, keeps_up, new_one, and_pow, bit_hi, lowBits_pow, ble_dec, fr_refl, fr_at, fr_up, fr_p, dum_ab, F27, sliceA, bnd, toNle, hb, hK, e1, e1', c0]
    · rcases rv with ⟨h, _⟩ | ⟨b', o, c, K, h0, h1, h2, h3, h4⟩
      · cases h
      · cases h2
        exact .inr ⟨b, 0, _, K, h0, h1, rfl, h3, h4⟩
end Go.Proofs.YtlbjdkhpabpmiaaT

/- The tape: a program's classes. -/
import Derived.Test.YtlbjdkhpabpmiaaMe
namespace Go.Proofs.YtlbjdkhpabpmiaaT
open Go Go.Proofs.YtlbjdkhpabpmiaaE Go.Proofs.YtlbjdkhpabpmiaaB
set_option linter.unusedSimpArgs false
set_option linter.unusedVariables false
attribute [local congr] Post_cg PostL_cg condP_cg

/-- A program on its way. -/
structure Us (p : Nat) (s : AV) (T0 : List Int) (h0 : Mem) (nx0 b2 b : Nat) (h : Mem) (nx : Nat) (nv cv mv ov : AV) : Prop where
  tp : TP h nx p s T0
  blk : h.blk b = some ⟨27, 5, true, false, [nv, cv, mv, ov, .int .i64 6]⟩
  blk2 : h.blk b2 = some ⟨27, 5, true, false, [.nils, .nils, .nils, .nils, .int .i64 0]⟩
  bn : nx0 ≤ b2
  b2b : b2 < b
  bl : b < nx
  hp : p < nx0
  hs : ∀ x, bid s = some x → x < nx0
  k : ∀ q, q < nx0 → ¬ q = p → h.blk q = h0.blk q
theorem Us.keeps {p : Nat} {s : AV} {T0 : List Int} {h0 : Mem} {nx0 b2 b : Nat} {h h' : Mem} {nx nx' : Nat} {nv cv mv ov : AV} (g : Us p s T0 h0 nx0 b2 b h nx nv cv mv ov) (hn : nx ≤ nx') (e : ∀ q, q < nx → h'.blk q = h.blk q) : Us p s T0 h0 nx0 b2 b h' nx' nv cv mv ov :=
  have h1 := g.bl; have h2 := g.b2b; have h3 := g.bn
  ⟨g.tp.keeps hn e, (e b h1).trans g.blk, (e b2 (by omega)).trans g.blk2, h3, h2, by omega, g.hp, g.hs, fun q hq hp => (e q (by omega)).trans (g.k q hq hp)⟩
theorem Us.new {p : Nat} {s : AV} {T0 : List Int} {h0 : Mem} {nx0 b2 b : Nat} {h : Mem} {nx : Nat} {nv cv mv ov : AV} (g : Us p s T0 h0 nx0 b2 b h nx nv cv mv ov) (K : Option Blk) : Us p s T0 h0 nx0 b2 b (h.set nx K) (nx + 1) nv cv mv ov :=
  g.keeps (by omega) fun q hq => Mem.blk_set_ne _ _ _ _ (by omega)
theorem Us.call {p : Nat} {s : AV} {T0 : List Int} {h0 : Mem} {nx0 b2 b : Nat} {h h' : Mem} {nx nx' : Nat} {nv cv mv ov : AV} (g : Us p s T0 h0 nx0 b2 b h nx nv cv mv ov) (t : TP h' nx' p s T0) (hn : nx ≤ nx') (e : ∀ q, q < nx → ¬ q = p → h'.blk q = h.blk q) : Us p s T0 h0 nx0 b2 b h' nx' nv cv mv ov :=
  have h1 := g.bl; have h2 := g.b2b; have h3 := g.bn; have h4 := g.hp
  ⟨t, (e b h1 (by omega)).trans g.blk, (e b2 (by omega) (by omega)).trans g.blk2, h3, h2, by omega, g.hp, g.hs, fun q hq hp => (e q (by omega) hp).trans (g.k q hq hp)⟩
/-- Another block of the program's own is written. -/
theorem Us.other {p : Nat} {s : AV} {T0 : List Int} {h0 : Mem} {nx0 b2 b : Nat} {h h' : Mem} {nx nx' : Nat} {nv cv mv ov : AV} (g : Us p s T0 h0 nx0 b2 b h nx nv cv mv ov) (hn : nx ≤ nx') (X : Nat → Prop) (e : ∀ q, q < nx → ¬ X q → h'.blk q = h.blk q) (x1 : ∀ q, X q → nx0 ≤ q ∧ q ≠ b ∧ q ≠ b2) : Us p s T0 h0 nx0 b2 b h' nx' nv cv mv ov := by
  have h1 := g.bl; have h2 := g.b2b; have h3 := g.bn; have h4 := g.hp
  have lo : ∀ q, q < nx0 → ¬ X q := fun q hq hx => by have := x1 q hx; omega
  refine ⟨g.tp.keep hn fun q hq hx => e q hq (lo q ?_), (e b h1 fun hx => (x1 b hx).2.1 rfl).trans g.blk, (e b2 (by omega) fun hx => (x1 b2 hx).2.2 rfl).trans g.blk2, h3, h2, by omega, g.hp, g.hs, fun q hq hp => (e q (by omega) (lo q hq)).trans (g.k q hq hp)⟩
  rcases hx with rfl | hx
  · exact h4
  · exact g.hs q hx
theorem one5 {a b c d : AV} (ha : a.one = true) (hb : b.one = true) (hc : c.one = true) (hd : d.one = true) : [a, b, c, d, AV.int .i64 6].all AV.one = true := by
  simp only [List.all_cons, List.all_nil, ha, hb, hc, hd]
  rfl
/-- One of the program's rows is laid. -/
theorem Us.put {p : Nat} {s : AV} {T0 : List Int} {h0 : Mem} {nx0 b2 b : Nat} {h : Mem} {nx : Nat} {nv cv mv ov : AV} (g : Us p s T0 h0 nx0 b2 b h nx nv cv mv ov) (o : Nat) (x : AV) (hx : x.cells = [x]) (hx1 : x.one = true) (nv' cv' mv' ov' : AV) (e : lay [nv, cv, mv, ov, AV.int .i64 6] o [x] = [nv', cv', mv', ov', .int .i64 6]) (ho : o + 1 ≤ 5) :
    ∃ H, (∀ lg, stA 1 (.ptr b o) x h nx lg = some ⟨.tup [], H, nx, bit lg b, bit lg b⟩) ∧ Us p s T0 h0 nx0 b2 b H nx nv' cv' mv' ov' ∧ ∀ q, ¬ q = b → H.blk q = h.blk q := by
  have h1 := g.bl; have h2 := g.b2b; have h3 := g.bn; have h4 := g.hp
  have one : x.cells.all AV.one = true := by rw [hx]; simp only [List.all_cons, List.all_nil, hx1]; rfl
  have st := fun lg => st_at g.blk g.bl (n := 1) (o := o) x (by rw [hx]; rfl) one (by simpa using ho) lg
  rw [hx, e] at st
  have kq : ∀ q, ¬ q = b → (h.set b (some ⟨27, 5, true, false, [nv', cv', mv', ov', .int .i64 6]⟩)).blk q = h.blk q := fun q hq => Mem.blk_set_ne _ _ _ _ hq
  refine ⟨_, st, ⟨g.tp.keep (Nat.le_refl _) fun q hq hx => kq q ?_, Mem.blk_set_same .., (kq b2 (by omega)).trans g.blk2, h3, h2, h1, h4, g.hs, fun q hq hp => (kq q (by omega)).trans (g.k q hq hp)⟩, kq⟩
  rcases hx with rfl | hx
  · omega
  · have := g.hs q hx; omega
def pCls (L : List C) (i : Nat) (sup fld : Int) : Prop := (sup = -1 ∧ 0 ≤ fld ∧ fld ≤ 3) ∨ (2 ≤ sup ∧ sup < 2 + i ∧ ∀ h : sup.toNat < L.length, L[sup.toNat].fld ≤ fld ∧ fld ≤ L[sup.toNat].fld + 2)
def dig (i : Nat) : ByteArray := Utf8.encode (IntKind.i32.wrap (IntKind.i64.wrap (48 + (i : Int))))
def nmc (i : Nat) : ByteArray := (⟨⟨[67]⟩⟩ : ByteArray) ++ dig i
theorem dig_size {i : Nat} (h : i < 3) : (dig i).size = 1 := by
  have : i = 0 ∨ i = 1 ∨ i = 2 := by omega
  rcases this with rfl | rfl | rfl <;> decide +kernel
/-- The classes that a tape makes, their binds not yet. -/
structure Kls (L : List C) : Prop where
  two : 2 ≤ L.length
  c0 : ∀ h : 0 < L.length, L[0] = ⟨⟨⟨[66, 108, 111, 99, 107]⟩⟩, -1, 4, .nils, []⟩
  c1 : ∀ h : 1 < L.length, L[1] = ⟨⟨⟨[65, 114, 114, 97, 121]⟩⟩, -1, 0, .nils, []⟩
  cs : ∀ j (h : j < L.length), 2 ≤ j → L[j].name = nmc (j - 2) ∧ L[j].bv = .nils ∧ L[j].B = [] ∧ 0 ≤ L[j].fld ∧ L[j].fld ≤ 3 + 2 * (j - 2 : Nat) ∧ (L[j].sup = -1 ∨ (2 ≤ L[j].sup ∧ L[j].sup < j ∧ ∀ h : L[j].sup.toNat < L.length, L[L[j].sup.toNat].fld ≤ L[j].fld))
theorem Kls.more {L : List C} (k : Kls L) {i : Nat} (hL : L.length = 2 + i) {sup fld : Int} (pc : pCls L i sup fld) : Kls (L ++ [⟨nmc i, sup, fld, .nils, []⟩]) := by
  have h2 := k.two
  have old : ∀ j (h : j < L.length), (L ++ [⟨nmc i, sup, fld, .nils, []⟩])[j]'(by rw [List.length_append]; simp; omega) = L[j] := fun j h => List.getElem_append_left h
  refine ⟨by rw [List.length_append]; omega, fun _ => by rw [old 0 (by omega)]; exact k.c0 (by omega), fun _ => by rw [old 1 (by omega)]; exact k.c1 (by omega), fun j h hj => ?_⟩
  by_cases c : j < L.length
  · rw [old j c]
    obtain ⟨a1, a2, a3, a4, a5, a6⟩ := k.cs j c hj
    refine ⟨a1, a2, a3, a4, a5, ?_⟩
    rcases a6 with a6 | ⟨a6, a7, a8⟩
    · exact .inl a6
    · refine .inr ⟨a6, a7, fun hq => ?_⟩
      rw [old _ (by omega)]
      exact a8 (by omega)
  · have e : j = L.length := by rw [List.length_append, List.length_singleton] at h; omega
    subst e
    have hj' : L.length - 2 = i := by omega
    rw [List.getElem_append_right (by omega)]
    simp only [Nat.sub_self, List.getElem_cons_zero, hj', and_self, true_and]
    rcases pc with ⟨a, b, c⟩ | ⟨a, b, c⟩
    · exact ⟨b, by omega, .inl a⟩
    · have hs : sup.toNat < L.length := by omega
      obtain ⟨c1, c2⟩ := c hs
      obtain ⟨_, _, _, a4, a5, _⟩ := k.cs sup.toNat hs (by omega)
      refine ⟨by omega, by omega, .inr ⟨a, by omega, fun hq => ?_⟩⟩
      rw [old _ hs]
      exact c1
def U5I (p : Nat) (s : AV) (T0 : List Int) (h0 : Mem) (nx0 b2 b : Nat) (nv : AV) (m : Nat) (ts : List AV) (h : Mem) (nx tc wr : Nat) : Prop := ∃ (i : Nat) (cv : AV) (L : List C), m = 3 - i ∧ i ≤ 3 ∧ ts.length = 197 ∧ sl ts 0 = .ptr p 0 ∧ sl ts 2 = .ptr b2 0 ∧ sl ts 3 = .ptr b 0 ∧ sl ts 4 = .int .i64 i ∧ Us p s T0 h0 nx0 b2 b h nx nv cv .nils .nils ∧ OW 4 cv h nx (css L) ∧ (∀ x, bid cv = some x → nx0 ≤ x ∧ x ≠ b ∧ x ≠ b2) ∧ L.length = 2 + i ∧ Kls L ∧ Mk p s nx0 tc wr
def U5R (p : Nat) (s : AV) (T0 : List Int) (h0 : Mem) (nx0 b2 b : Nat) (nv : AV) (e : Ex) (ts : List AV) (h : Mem) (nx tc wr : Nat) : Prop := e = .exit 0 ∧ ∃ (i : Nat) (cv : AV) (L : List C), 1 ≤ i ∧ i ≤ 3 ∧ ts.length = 197 ∧ sl ts 0 = .ptr p 0 ∧ sl ts 2 = .ptr b2 0 ∧ sl ts 3 = .ptr b 0 ∧ Us p s T0 h0 nx0 b2 b h nx nv cv .nils .nils ∧ OW 4 cv h nx (css L) ∧ (∀ x, bid cv = some x → nx0 ≤ x ∧ x ≠ b ∧ x ≠ b2) ∧ L.length = 2 + i ∧ Kls L ∧ Mk p s nx0 tc wr
def U5S (p : Nat) (s : AV) (T0 : List Int) (h0 : Mem) (nx0 b2 b b5 : Nat) (nv cv : AV) (i : Nat) (L : List C) (ts : List AV) (h : Mem) (nx : Nat) : Prop := ∃ (sup fld : Int), ts.length = 197 ∧ sl ts 0 = .ptr p 0 ∧ sl ts 2 = .ptr b2 0 ∧ sl ts 3 = .ptr b 0 ∧ sl ts 4 = .int .i64 i ∧ sl ts 5 = .ptr b5 0 ∧ Us p s T0 h0 nx0 b2 b h nx nv cv .nils .nils ∧ OW 4 cv h nx (css L) ∧ h.blk b5 = some ⟨61, 4, true, false, [.str (nmc i), .int .i64 sup, .int .i64 fld, .nils]⟩ ∧ b5 < nx ∧ pCls L i sup fld
set_option maxHeartbeats 16000000 in
theorem u5_round {p : Nat} {s : AV} {T0 : List Int} {h0 : Mem} {nx0 b2 b : Nat} {nv : AV} (lg : Nat) (hlg : lg ≤ nx0) (m : Nat) (ts : List AV) (h : Mem) (nx tc wr : Nat) (hi : U5I p s T0 h0 nx0 b2 b nv m ts h nx tc wr) :
    Post (xC T 160 L9_5b ts h nx lg) fun v' h' nx' tc' wr' => Round (U5I p s T0 h0 nx0 b2 b nv) (U5R p s T0 h0 nx0 b2 b nv) m v' h' nx' (tc ||| tc') (wr ||| wr') := by
  obtain ⟨i, cv, L, rfl, hi3, hlen, g0, g2, g3, g4, g, ow, own, hL, cl, mk⟩ := hi
  have hn : nx0 ≤ nx := by have := g.bn; have := g.b2b; have := g.bl; omega
  have hp := g.hp
  simp (maxSteps := 4000000) (maxDischargeDepth := 6) [↓step_none, ↓step_t, ↓step_f, ↓step_nt, ↓step_nf, ↓op_load, ↓op_store, ↓op_slice, ↓op_app, ↓op_islc, ↓P_skip, ↓P_exit, ↓P_ret, ↓P_seq, ↓P_cond, ↓P_blk, ↓P_reg, ↓P_draw, ↓P_nil, ↓P_cons, condP_t, condP_f, dum_ab, stepR, want_none, want_some, opRun, ev_t, ev_c, put_none, put_some, resAll, res_tmp, res_cell, oneOf, minI, maxI, min2A, max2A, mn2, mx2, mx3, rdBlk, wrBlk, newBlk, partA, abin, ibin, isShift, AV.cells, AV.one, lay, sub, fillA, lenA, toN, allApart, apartFrom, Nat.testBit, Mem.blk_set_same, Mem.blk_set_ne, Mem.set_set, bit_zero, bit_self, lowBits_or, lowBits_zero, len_setT, sl_same, sl_ne, len_frame, sl_frame,↓op_len, lenOp_slc, lenOp_nils, ↓Post.some, ↓Post_bind, ↓Post_ret, ↓Post_draw, ↓PostL_nil, ↓PostL_cons, Post_fail, ofOpt_some, ofOpt_none, eA_b, eA_i, eA_s, eA_nn, eA_np, eA_pn, eA_lnn, eA_lnp, eA_lpn, eA_i2, eA_i3, blt_dec, Nat.add_assoc, keeps_refl, keeps_at, keeps_up, new_one, and_pow, bit_hi, lowBits_pow, ble_dec, fr_refl, fr_at, fr_up, fr_p, dum_ab, reps, L9_5b, hlen, g0, g2, g3, g4]
  refine (next_fx g.tp 3 (by decide) (by decide)).post (by omega) (by omega) ?_
  rintro _ h1 nx1 tc1 wr1 ⟨r1, rfl, hr1, t1⟩ n1 k1 w1 x1
  have u1 := g.call t1 n1 k1
  have M1 : Mk p s nx0 tc1 wr1 := ⟨fun q hq hp => w1 q (by omega) hp, fun q hq hp => x1 q (by omega) hp⟩
  by_cases c : i ≤ r1
  · have c' : (i : Int) ≤ (r1 : Int) := by omega
    have dg := dig_size (show i < 3 by omega)
    have de : Utf8.encode (IntKind.i32.wrap (IntKind.i64.wrap (48 + (i : Int)))) = dig i := rfl
    have sC : (⟨⟨[67]⟩⟩ : ByteArray).size = 1 := rfl
    have nE : (⟨⟨[67]⟩⟩ : ByteArray) ++ dig i = nmc i := rfl
    simp (maxSteps := 4000000) (maxDischargeDepth := 6) [↓step_none, ↓step_t, ↓step_f, ↓step_nt, ↓step_nf, ↓op_load, ↓op_store, ↓op_slice, ↓op_app, ↓op_islc, ↓P_skip, ↓P_exit, ↓P_ret, ↓P_seq, ↓P_cond, ↓P_blk, ↓P_reg, ↓P_draw, ↓P_nil, ↓P_cons, condP_t, condP_f, dum_ab, stepR, want_none, want_some, opRun, ev_t, ev_c, put_none, put_some, resAll, res_tmp, res_cell, oneOf, minI, maxI, min2A, max2A, mn2, mx2, mx3, rdBlk, wrBlk, newBlk, partA, abin, ibin, isShift, AV.cells, AV.one, lay, sub, fillA, lenA, toN, allApart, apartFrom, Nat.testBit, Mem.blk_set_same, Mem.blk_set_ne, Mem.set_set, bit_zero, bit_self, lowBits_or, lowBits_zero, len_setT, sl_same, sl_ne, len_frame, sl_frame,↓op_len, lenOp_slc, lenOp_nils, ↓Post.some, ↓Post_bind, ↓Post_ret, ↓Post_draw, ↓PostL_nil, ↓PostL_cons, Post_fail, ofOpt_some, ofOpt_none, eA_b, eA_i, eA_s, eA_nn, eA_np, eA_pn, eA_lnn, eA_lnp, eA_lpn, eA_i2, eA_i3, blt_dec, Nat.add_assoc, keeps_refl, keeps_at, keeps_up, new_one, and_pow, bit_hi, lowBits_pow, ble_dec, fr_refl, fr_at, fr_up, fr_p, dum_ab, reps, hlen, g0, g2, g3, g4, c, c', de, dg, sC, nE]
    refine (next_fx u1.tp 4 (by decide) (by decide)).post (by omega) (by omega) ?_
    rintro _ h2 nx2 tc2 wr2 ⟨r2, rfl, hr2, t2⟩ n2 k2 w2 x2
    have u2 := u1.call t2 n2 k2
    obtain ⟨H3, st3, b3, s3⟩ := st_var h2 nx2 (n := 4) (t := 61) (sz := 4) (g := false) [.str ⟨⟨[]⟩⟩, .int .i64 0, .int .i64 0, .nils] [.str (nmc i), .int .i64 (-1), .int .i64 r2, .nils] rfl rfl rfl
    simp (maxSteps := 4000000) (maxDischargeDepth := 6) [↓step_none, ↓step_t, ↓step_f, ↓step_nt, ↓step_nf, ↓op_load, ↓op_store, ↓op_slice, ↓op_app, ↓op_islc, ↓P_skip, ↓P_exit, ↓P_ret, ↓P_seq, ↓P_cond, ↓P_blk, ↓P_reg, ↓P_draw, ↓P_nil, ↓P_cons, condP_t, condP_f, dum_ab, stepR, want_none, want_some, opRun, ev_t, ev_c, put_none, put_some, resAll, res_tmp, res_cell, oneOf, minI, maxI, min2A, max2A, mn2, mx2, mx3, rdBlk, wrBlk, newBlk, partA, abin, ibin, isShift, AV.cells, AV.one, lay, sub, fillA, lenA, toN, allApart, apartFrom, Nat.testBit, Mem.blk_set_same, Mem.blk_set_ne, Mem.set_set, bit_zero, bit_self, lowBits_or, lowBits_zero, len_setT, sl_same, sl_ne, len_frame, sl_frame,↓op_len, lenOp_slc, lenOp_nils, ↓Post.some, ↓Post_bind, ↓Post_ret, ↓Post_draw, ↓PostL_nil, ↓PostL_cons, Post_fail, ofOpt_some, ofOpt_none, eA_b, eA_i, eA_s, eA_nn, eA_np, eA_pn, eA_lnn, eA_lnp, eA_lpn, eA_i2, eA_i3, blt_dec, Nat.add_assoc, keeps_refl, keeps_at, keeps_up, new_one, and_pow, bit_hi, lowBits_pow, ble_dec, fr_refl, fr_at, fr_up, fr_p, dum_ab, reps, hlen, g0, g2, g3, g4, st3]
    have u3 := u2.keeps (nx' := nx2 + 1) (by omega) s3
    have ow3 : OW 4 cv H3 (nx2 + 1) (css L) := ow.keep (by omega) fun x hx => by
      have := own x hx
      have := ow.lt hx
      rw [s3 x (by omega), k2 x (by omega) (by omega), k1 x (by omega) (by omega)]
    have ltc : ∀ x, bid cv = some x → x < nx := fun x hx => ow.lt hx
    have M2 : Mk p s nx0 tc2 wr2 := ⟨fun q hq hp => w2 q (by omega) hp, fun q hq hp => x2 q (by omega) hp⟩
    have ci : IntKind.i64.wrap ((i : Int) + 1) = ((i + 1 : Nat) : Int) := by rw [IntKind.wrap_i64]; omega
    have hbb := g.bl
    have hb2 := g.b2b
    have hbn := g.bn
    by_cases i0 : i = 0
    · have i0n : ¬ 0 < i := by omega
      have i0' : ¬ (0 : Int) < (i : Int) := by omega
      have pc0 : pCls L i (-1) r2 := .inl ⟨rfl, by omega, by omega⟩
      simp (maxSteps := 4000000) (maxDischargeDepth := 6) [↓step_none, ↓step_t, ↓step_f, ↓step_nt, ↓step_nf, ↓op_load, ↓op_store, ↓op_slice, ↓op_app, ↓op_islc, ↓P_skip, ↓P_exit, ↓P_ret, ↓P_seq, ↓P_cond, ↓P_blk, ↓P_reg, ↓P_draw, ↓P_nil, ↓P_cons, condP_t, condP_f, dum_ab, stepR, want_none, want_some, opRun, ev_t, ev_c, put_none, put_some, resAll, res_tmp, res_cell, oneOf, minI, maxI, min2A, max2A, mn2, mx2, mx3, rdBlk, wrBlk, newBlk, partA, abin, ibin, isShift, AV.cells, AV.one, lay, sub, fillA, lenA, toN, allApart, apartFrom, Nat.testBit, Mem.blk_set_same, Mem.blk_set_ne, Mem.set_set, bit_zero, bit_self, lowBits_or, lowBits_zero, len_setT, sl_same, sl_ne, len_frame, sl_frame,↓op_len, lenOp_slc, lenOp_nils, ↓Post.some, ↓Post_bind, ↓Post_ret, ↓Post_draw, ↓PostL_nil, ↓PostL_cons, Post_fail, ofOpt_some, ofOpt_none, eA_b, eA_i, eA_s, eA_nn, eA_np, eA_pn, eA_lnn, eA_lnp, eA_lpn, eA_i2, eA_i3, blt_dec, Nat.add_assoc, keeps_refl, keeps_at, keeps_up, new_one, and_pow, bit_hi, lowBits_pow, ble_dec, fr_refl, fr_at, fr_up, fr_p, dum_ab, reps, hlen, g0, g2, g3, g4, i0n, i0']
      have lb := fun lg => ld_at u3.blk u3.bl (o := 1) (v := cv) rfl lg
      have lv := fun lg => ld_sub (n := 4) (o := 0) b3 (show nx2 < nx2 + 1 by omega) (vs := [.str (nmc i), .int .i64 (-1), .int .i64 (r2 : Int), .nils]) rfl lg
      simp (maxSteps := 4000000) (maxDischargeDepth := 6) [↓step_none, ↓step_t, ↓step_f, ↓step_nt, ↓step_nf, ↓op_load, ↓op_store, ↓op_slice, ↓op_app, ↓op_islc, ↓P_skip, ↓P_exit, ↓P_ret, ↓P_seq, ↓P_cond, ↓P_blk, ↓P_reg, ↓P_draw, ↓P_nil, ↓P_cons, condP_t, condP_f, dum_ab, stepR, want_none, want_some, opRun, ev_t, ev_c, put_none, put_some, resAll, res_tmp, res_cell, oneOf, minI, maxI, min2A, max2A, mn2, mx2, mx3, rdBlk, wrBlk, newBlk, partA, abin, ibin, isShift, AV.cells, AV.one, lay, sub, fillA, lenA, toN, allApart, apartFrom, Nat.testBit, Mem.blk_set_same, Mem.blk_set_ne, Mem.set_set, bit_zero, bit_self, lowBits_or, lowBits_zero, len_setT, sl_same, sl_ne, len_frame, sl_frame,↓op_len, lenOp_slc, lenOp_nils, ↓Post.some, ↓Post_bind, ↓Post_ret, ↓Post_draw, ↓PostL_nil, ↓PostL_cons, Post_fail, ofOpt_some, ofOpt_none, eA_b, eA_i, eA_s, eA_nn, eA_np, eA_pn, eA_lnn, eA_lnp, eA_lpn, eA_i2, eA_i3, blt_dec, Nat.add_assoc, keeps_refl, keeps_at, keeps_up, new_one, and_pow, bit_hi, lowBits_pow, ble_dec, fr_refl, fr_at, fr_up, fr_p, dum_ab, reps, hlen, g0, g2, g3, i0n, lb, lv]
      obtain ⟨cv', hT, nxT, tcT, wrT, eT, nT, owT, kT, dT, tT, wT⟩ := OW.push (sz := 4) (by decide) 61 56 ow3 [.str (nmc i), .int .i64 (-1), .int .i64 (r2 : Int), .nils] rfl (fun k hk => fits_few (by rw [css_len] at hk; omega) (by omega)) rfl 61 4 lg
      simp only [Nat.add_assoc, Nat.reduceAdd] at eT
      refine Post.of eT ?_
      have noT : ∀ q, bid cv = some q → nx0 ≤ q ∧ q ≠ b ∧ q ≠ b2 := own
      have uT : Us p s T0 h0 nx0 b2 b hT nxT nv cv .nils .nils := u3.other (by omega) (fun q => bid cv = some q) (fun q hq hx => kT q hq hx) own
      have ownT : ∀ x, bid cv' = some x → nx0 ≤ x ∧ x ≠ b ∧ x ≠ b2 := fun x hx => by
        rcases dT x hx with e | e
        · exact own x e
        · have := u3.bl; have := u3.b2b; have := u3.bn; omega
      obtain ⟨HF, stF, uF, kF⟩ := uT.put 1 cv' owT.one.1 owT.one.2 nv cv' .nils .nils rfl (by decide)
      simp (maxSteps := 4000000) (maxDischargeDepth := 6) [↓step_none, ↓step_t, ↓step_f, ↓step_nt, ↓step_nf, ↓op_load, ↓op_store, ↓op_slice, ↓op_app, ↓op_islc, ↓P_skip, ↓P_exit, ↓P_ret, ↓P_seq, ↓P_cond, ↓P_blk, ↓P_reg, ↓P_draw, ↓P_nil, ↓P_cons, condP_t, condP_f, dum_ab, stepR, want_none, want_some, opRun, ev_t, ev_c, put_none, put_some, resAll, res_tmp, res_cell, oneOf, minI, maxI, min2A, max2A, mn2, mx2, mx3, rdBlk, wrBlk, newBlk, partA, abin, ibin, isShift, AV.cells, AV.one, lay, sub, fillA, lenA, toN, allApart, apartFrom, Nat.testBit, Mem.blk_set_same, Mem.blk_set_ne, Mem.set_set, bit_zero, bit_self, lowBits_or, lowBits_zero, len_setT, sl_same, sl_ne, len_frame, sl_frame,↓op_len, lenOp_slc, lenOp_nils, ↓Post.some, ↓Post_bind, ↓Post_ret, ↓Post_draw, ↓PostL_nil, ↓PostL_cons, Post_fail, ofOpt_some, ofOpt_none, eA_b, eA_i, eA_s, eA_nn, eA_np, eA_pn, eA_lnn, eA_lnp, eA_lpn, eA_i2, eA_i3, blt_dec, Nat.add_assoc, keeps_refl, keeps_at, keeps_up, new_one, and_pow, bit_hi, lowBits_pow, ble_dec, fr_refl, fr_at, fr_up, fr_p, dum_ab, reps, hlen, g0, g2, g3, i0n, stF, g4, ci]
      have MT : Mk p s nx0 tcT wrT := ⟨fun q hq hp => wT q fun e => by have := own q e; omega, fun q hq hp => tT q (fun e => by have := own q e; omega) (by omega)⟩
      refine Round.nor (m' := 3 - (i + 1)) (by omega) ⟨i + 1, cv', L ++ [⟨nmc i, (-1), (r2 : Int), .nils, []⟩], rfl, by omega, ?_, ?_, ?_, ?_, ?_, uF, ?_, ownT, by rw [List.length_append, hL]; rfl, cl.more hL pc0, ?_⟩
      any_goals simp [len_setT, sl_same, sl_ne, g0, g2, g3, i0n, hlen]
      · have : css (L ++ [⟨nmc i, (-1), (r2 : Int), .nils, []⟩]) = css L ++ [[.str (nmc i), .int .i64 (-1), .int .i64 (r2 : Int), .nils]] := by unfold css; rw [List.map_append]; rfl
        rw [this]
        exact owT.keep (Nat.le_refl _) fun x hx => kF x (ownT x hx).2.1
      · refine ⟨fun q hq hp => ?_, fun q hq hp => ?_⟩
        · have z1 : ∀ lg, bit lg b &&& 2 ^ q = 0 := fun lg => bit_and (by omega)
          have z2 : ∀ lg, bit lg nx2 &&& 2 ^ q = 0 := fun lg => bit_and (by omega)
          simp only [Nat.and_or_distrib_right, mk.w q hq hp, M1.w q hq hp, M2.w q hq hp, MT.w q hq hp, z1, z2, Nat.or_zero]
        · have z1 : ∀ lg, bit lg b &&& 2 ^ q = 0 := fun lg => bit_and (by omega)
          have z2 : ∀ lg, bit lg nx2 &&& 2 ^ q = 0 := fun lg => bit_and (by omega)
          simp only [Nat.and_or_distrib_right, mk.t q hq hp, M1.t q hq hp, M2.t q hq hp, MT.t q hq hp, z1, z2, Nat.or_zero]
    have i0n : 0 < i := by omega
    have i0' : (0 : Int) < (i : Int) := by omega
    simp (maxSteps := 4000000) (maxDischargeDepth := 6) [↓step_none, ↓step_t, ↓step_f, ↓step_nt, ↓step_nf, ↓op_load, ↓op_store, ↓op_slice, ↓op_app, ↓op_islc, ↓P_skip, ↓P_exit, ↓P_ret, ↓P_seq, ↓P_cond, ↓P_blk, ↓P_reg, ↓P_draw, ↓P_nil, ↓P_cons, condP_t, condP_f, dum_ab, stepR, want_none, want_some, opRun, ev_t, ev_c, put_none, put_some, resAll, res_tmp, res_cell, oneOf, minI, maxI, min2A, max2A, mn2, mx2, mx3, rdBlk, wrBlk, newBlk, partA, abin, ibin, isShift, AV.cells, AV.one, lay, sub, fillA, lenA, toN, allApart, apartFrom, Nat.testBit, Mem.blk_set_same, Mem.blk_set_ne, Mem.set_set, bit_zero, bit_self, lowBits_or, lowBits_zero, len_setT, sl_same, sl_ne, len_frame, sl_frame,↓op_len, lenOp_slc, lenOp_nils, ↓Post.some, ↓Post_bind, ↓Post_ret, ↓Post_draw, ↓PostL_nil, ↓PostL_cons, Post_fail, ofOpt_some, ofOpt_none, eA_b, eA_i, eA_s, eA_nn, eA_np, eA_pn, eA_lnn, eA_lnp, eA_lpn, eA_i2, eA_i3, blt_dec, Nat.add_assoc, keeps_refl, keeps_at, keeps_up, new_one, and_pow, bit_hi, lowBits_pow, ble_dec, fr_refl, fr_at, fr_up, fr_p, dum_ab, reps, hlen, g0, g2, g3, g4, i0n, i0']
    refine (next_fx u3.tp 2 (by decide) (by decide)).post (by omega) (by omega) ?_
    rintro _ h5 nx5 tc5 wr5 ⟨r5, rfl, hr5, t5⟩ n5 k5 w5 x5
    have u5 := u3.call t5 n5 k5
    have M5 : Mk p s nx0 tc5 wr5 := ⟨fun q hq hp => w5 q (by omega) hp, fun q hq hp => x5 q (by omega) hp⟩
    have b5 := (k5 nx2 (by omega) (by omega)).trans b3
    have ow5 : OW 4 cv h5 nx5 (css L) := ow3.keep (by omega) fun x hx => k5 x (by have := ltc x hx; omega) (by have := own x hx; omega)
    have pc0 : pCls L i (-1) r2 := .inl ⟨rfl, by omega, by omega⟩
    simp (maxSteps := 4000000) (maxDischargeDepth := 6) [↓step_none, ↓step_t, ↓step_f, ↓step_nt, ↓step_nf, ↓op_load, ↓op_store, ↓op_slice, ↓op_app, ↓op_islc, ↓P_skip, ↓P_exit, ↓P_ret, ↓P_seq, ↓P_cond, ↓P_blk, ↓P_reg, ↓P_draw, ↓P_nil, ↓P_cons, condP_t, condP_f, dum_ab, stepR, want_none, want_some, opRun, ev_t, ev_c, put_none, put_some, resAll, res_tmp, res_cell, oneOf, minI, maxI, min2A, max2A, mn2, mx2, mx3, rdBlk, wrBlk, newBlk, partA, abin, ibin, isShift, AV.cells, AV.one, lay, sub, fillA, lenA, toN, allApart, apartFrom, Nat.testBit, Mem.blk_set_same, Mem.blk_set_ne, Mem.set_set, bit_zero, bit_self, lowBits_or, lowBits_zero, len_setT, sl_same, sl_ne, len_frame, sl_frame,↓op_len, lenOp_slc, lenOp_nils, ↓Post.some, ↓Post_bind, ↓Post_ret, ↓Post_draw, ↓PostL_nil, ↓PostL_cons, Post_fail, ofOpt_some, ofOpt_none, eA_b, eA_i, eA_s, eA_nn, eA_np, eA_pn, eA_lnn, eA_lnp, eA_lpn, eA_i2, eA_i3, blt_dec, Nat.add_assoc, keeps_refl, keeps_at, keeps_up, new_one, and_pow, bit_hi, lowBits_pow, ble_dec, fr_refl, fr_at, fr_up, fr_p, dum_ab, reps, hlen, g0, g2, g3, g4, i0n, i0']
    refine condP_cut (I := fun r h' n' tc wr => r.1 = .nor ∧ U5S p s T0 h0 nx0 b2 b nx2 nv cv i L r.2 h' n' ∧ Mk p s nx0 tc wr) (fun _ => ?_) (fun _ => ?_) ?_
    · have wi : (1 : Int) ≤ (i : Int) := by omega
      simp (maxSteps := 4000000) (maxDischargeDepth := 6) [↓step_none, ↓step_t, ↓step_f, ↓step_nt, ↓step_nf, ↓op_load, ↓op_store, ↓op_slice, ↓op_app, ↓op_islc, ↓P_skip, ↓P_exit, ↓P_ret, ↓P_seq, ↓P_cond, ↓P_blk, ↓P_reg, ↓P_draw, ↓P_nil, ↓P_cons, condP_t, condP_f, dum_ab, stepR, want_none, want_some, opRun, ev_t, ev_c, put_none, put_some, resAll, res_tmp, res_cell, oneOf, minI, maxI, min2A, max2A, mn2, mx2, mx3, rdBlk, wrBlk, newBlk, partA, abin, ibin, isShift, AV.cells, AV.one, lay, sub, fillA, lenA, toN, allApart, apartFrom, Nat.testBit, Mem.blk_set_same, Mem.blk_set_ne, Mem.set_set, bit_zero, bit_self, lowBits_or, lowBits_zero, len_setT, sl_same, sl_ne, len_frame, sl_frame,↓op_len, lenOp_slc, lenOp_nils, ↓Post.some, ↓Post_bind, ↓Post_ret, ↓Post_draw, ↓PostL_nil, ↓PostL_cons, Post_fail, ofOpt_some, ofOpt_none, eA_b, eA_i, eA_s, eA_nn, eA_np, eA_pn, eA_lnn, eA_lnp, eA_lpn, eA_i2, eA_i3, blt_dec, Nat.add_assoc, keeps_refl, keeps_at, keeps_up, new_one, and_pow, bit_hi, lowBits_pow, ble_dec, fr_refl, fr_at, fr_up, fr_p, dum_ab, reps, hlen, g0, g2, g3, g4]
      refine (next_fx u5.tp i wi (by omega)).post (by omega) (by omega) ?_
      rintro _ h6 nx6 tc6 wr6 ⟨r6, rfl, hr6, t6⟩ n6 k6 w6 x6
      have u6 := u5.call t6 n6 k6
      have M6 : Mk p s nx0 tc6 wr6 := ⟨fun q hq hp => w6 q (by omega) hp, fun q hq hp => x6 q (by omega) hp⟩
      have b6 := (k6 nx2 (by omega) (by omega)).trans b5
      have ow6 : OW 4 cv h6 nx6 (css L) := ow5.keep (by omega) fun x hx => k6 x (by have := ltc x hx; omega) (by have := own x hx; omega)
      have w2 : IntKind.i64.wrap (2 + (r6 : Int)) = ((r6 + 2 : Nat) : Int) := by rw [IntKind.wrap_i64]; omega
      obtain ⟨S6, hS6⟩ : ∃ S6 : Nat, S6 = r6 + 2 := ⟨_, rfl⟩
      rw [← hS6] at w2
      have st6 := fun lg => st_at b6 (show nx2 < nx6 by omega) (n := 1) (o := 1) (.int .i64 (S6 : Int)) rfl rfl (by simp) lg
      have e6 : lay [AV.str (nmc i), AV.int .i64 (-1), AV.int .i64 r2, AV.nils] 1 [AV.int .i64 (S6 : Int)] = [AV.str (nmc i), AV.int .i64 (S6 : Int), AV.int .i64 r2, AV.nils] := rfl
      simp only [AV.cells, e6] at st6
      obtain ⟨H7, hH7⟩ : ∃ H7, H7 = h6.set nx2 (some ⟨61, 4, true, false, [.str (nmc i), .int .i64 (S6 : Int), .int .i64 r2, .nils]⟩) := ⟨_, rfl⟩
      rw [← hH7] at st6
      have k7 : ∀ q, ¬ q = nx2 → H7.blk q = h6.blk q := fun q hq => by rw [hH7, Mem.blk_set_ne _ _ _ _ hq]
      have b7 : H7.blk nx2 = some ⟨61, 4, true, false, [.str (nmc i), .int .i64 (S6 : Int), .int .i64 r2, .nils]⟩ := by rw [hH7, Mem.blk_set_same]
      have u7 : Us p s T0 h0 nx0 b2 b H7 nx6 nv cv .nils .nils := u6.other (Nat.le_refl _) (fun q => q = nx2) (fun q _ hq => k7 q hq) (fun q hq => by subst hq; omega)
      have ow7 : OW 4 cv H7 nx6 (css L) := ow6.keep (Nat.le_refl _) fun x hx => k7 x (by have := ltc x hx; omega)
      have lb7 := fun lg => ld_at u7.blk u7.bl (o := 1) (v := cv) rfl lg
      have ls7 := fun lg => ld_at b7 (show nx2 < nx6 by omega) (o := 1) (v := .int .i64 (S6 : Int)) rfl lg
      have hS : S6 < L.length := by omega
      obtain ⟨bE, oE, el⟩ := (ow7.rd (by decide)).el (i := S6) (by rw [css_len]; exact hS)
      rw [css_at] at el
      have el2 := fun lg => el.one 2 _ rfl lg
      have elp := el.pl
      have eld : bid cv = some bE := el.bd
      have hbE := own bE eld
      have hbL := ltc bE eld
      simp (maxSteps := 4000000) (maxDischargeDepth := 6) [↓step_none, ↓step_t, ↓step_f, ↓step_nt, ↓step_nf, ↓op_load, ↓op_store, ↓op_slice, ↓op_app, ↓op_islc, ↓P_skip, ↓P_exit, ↓P_ret, ↓P_seq, ↓P_cond, ↓P_blk, ↓P_reg, ↓P_draw, ↓P_nil, ↓P_cons, condP_t, condP_f, dum_ab, stepR, want_none, want_some, opRun, ev_t, ev_c, put_none, put_some, resAll, res_tmp, res_cell, oneOf, minI, maxI, min2A, max2A, mn2, mx2, mx3, rdBlk, wrBlk, newBlk, partA, abin, ibin, isShift, AV.cells, AV.one, lay, sub, fillA, lenA, toN, allApart, apartFrom, Nat.testBit, Mem.blk_set_same, Mem.blk_set_ne, Mem.set_set, bit_zero, bit_self, lowBits_or, lowBits_zero, len_setT, sl_same, sl_ne, len_frame, sl_frame,↓op_len, lenOp_slc, lenOp_nils, ↓Post.some, ↓Post_bind, ↓Post_ret, ↓Post_draw, ↓PostL_nil, ↓PostL_cons, Post_fail, ofOpt_some, ofOpt_none, eA_b, eA_i, eA_s, eA_nn, eA_np, eA_pn, eA_lnn, eA_lnp, eA_lpn, eA_i2, eA_i3, blt_dec, Nat.add_assoc, keeps_refl, keeps_at, keeps_up, new_one, and_pow, bit_hi, lowBits_pow, ble_dec, fr_refl, fr_at, fr_up, fr_p, dum_ab, reps, hlen, g0, g2, g3, g4, w2, st6, lb7, ls7, elp, el2]
      refine (next_fx u7.tp 3 (by decide) (by decide)).post (by omega) (by omega) ?_
      rintro _ h8 nx8 tc8 wr8 ⟨r8, rfl, hr8, t8⟩ n8 k8 w8 x8
      have u8 := u7.call t8 n8 k8
      have M8 : Mk p s nx0 tc8 wr8 := ⟨fun q hq hp => w8 q (by omega) hp, fun q hq hp => x8 q (by omega) hp⟩
      have b8 := (k8 nx2 (by omega) (by omega)).trans b7
      have ow8 : OW 4 cv h8 nx8 (css L) := ow7.keep (by omega) fun x hx => k8 x (by have := ltc x hx; omega) (by have := own x hx; omega)
      obtain ⟨_, _, _, f0, f1, _⟩ := cl.cs S6 hS (by omega)
      have wf : IntKind.i64.wrap (L[S6].fld + (r8 : Int)) = L[S6].fld + r8 := by rw [IntKind.wrap_i64]; omega
      have st8 := fun lg => st_at b8 (show nx2 < nx8 by omega) (n := 1) (o := 2) (.int .i64 (L[S6].fld + (r8 : Int))) rfl rfl (by simp) lg
      have e8 : lay [AV.str (nmc i), AV.int .i64 (S6 : Int), AV.int .i64 r2, AV.nils] 2 [AV.int .i64 (L[S6].fld + (r8 : Int))] = [AV.str (nmc i), AV.int .i64 (S6 : Int), AV.int .i64 (L[S6].fld + (r8 : Int)), AV.nils] := rfl
      simp only [AV.cells, e8] at st8
      obtain ⟨H9, hH9⟩ : ∃ H9, H9 = h8.set nx2 (some ⟨61, 4, true, false, [.str (nmc i), .int .i64 (S6 : Int), .int .i64 (L[S6].fld + (r8 : Int)), .nils]⟩) := ⟨_, rfl⟩
      rw [← hH9] at st8
      have k9 : ∀ q, ¬ q = nx2 → H9.blk q = h8.blk q := fun q hq => by rw [hH9, Mem.blk_set_ne _ _ _ _ hq]
      have b9 : H9.blk nx2 = some ⟨61, 4, true, false, [.str (nmc i), .int .i64 (S6 : Int), .int .i64 (L[S6].fld + (r8 : Int)), .nils]⟩ := by rw [hH9, Mem.blk_set_same]
      have u9 : Us p s T0 h0 nx0 b2 b H9 nx8 nv cv .nils .nils := u8.other (Nat.le_refl _) (fun q => q = nx2) (fun q _ hq => k9 q hq) (fun q hq => by subst hq; omega)
      have ow9 : OW 4 cv H9 nx8 (css L) := ow8.keep (Nat.le_refl _) fun x hx => k9 x (by have := ltc x hx; omega)
      simp (maxSteps := 4000000) (maxDischargeDepth := 6) [↓step_none, ↓step_t, ↓step_f, ↓step_nt, ↓step_nf, ↓op_load, ↓op_store, ↓op_slice, ↓op_app, ↓op_islc, ↓P_skip, ↓P_exit, ↓P_ret, ↓P_seq, ↓P_cond, ↓P_blk, ↓P_reg, ↓P_draw, ↓P_nil, ↓P_cons, condP_t, condP_f, dum_ab, stepR, want_none, want_some, opRun, ev_t, ev_c, put_none, put_some, resAll, res_tmp, res_cell, oneOf, minI, maxI, min2A, max2A, mn2, mx2, mx3, rdBlk, wrBlk, newBlk, partA, abin, ibin, isShift, AV.cells, AV.one, lay, sub, fillA, lenA, toN, allApart, apartFrom, Nat.testBit, Mem.blk_set_same, Mem.blk_set_ne, Mem.set_set, bit_zero, bit_self, lowBits_or, lowBits_zero, len_setT, sl_same, sl_ne, len_frame, sl_frame,↓op_len, lenOp_slc, lenOp_nils, ↓Post.some, ↓Post_bind, ↓Post_ret, ↓Post_draw, ↓PostL_nil, ↓PostL_cons, Post_fail, ofOpt_some, ofOpt_none, eA_b, eA_i, eA_s, eA_nn, eA_np, eA_pn, eA_lnn, eA_lnp, eA_lpn, eA_i2, eA_i3, blt_dec, Nat.add_assoc, keeps_refl, keeps_at, keeps_up, new_one, and_pow, bit_hi, lowBits_pow, ble_dec, fr_refl, fr_at, fr_up, fr_p, dum_ab, reps, hlen, g0, g2, g3, g4, w2, st6, lb7, ls7, elp, el2, wf, st8]
      refine ⟨⟨ap3 (w8 b (by omega) (by omega)) (new_lo (by omega)), ap3 (w8 nx2 (by omega) (by omega)) (new_lo (by omega)), ap3 (w8 bE (by omega) (by omega)) (new_lo (by omega))⟩, ⟨(S6 : Int), L[S6].fld + (r8 : Int), ?_, ?_, ?_, ?_, ?_, ?_, u9, ow9, b9, by omega, .inr ⟨by omega, by omega, fun hq => ?_⟩⟩, ?_⟩
      any_goals simp [len_setT, sl_same, sl_ne, hlen, g0, g2, g3, g4]
      · omega
      · refine ⟨fun q hq hp => ?_, fun q hq hp => ?_⟩
        · have z2 : ∀ lg', bit lg' nx2 &&& 2 ^ q = 0 := fun lg => bit_and (by omega)
          have z3 : ∀ lg', lowBits lg (bit lg' nx2) &&& 2 ^ q = 0 := fun lg' => low_z (z2 _)
          simp only [Nat.and_or_distrib_right, M6.w q hq hp, (M8.low (lg := lg)).w q hq hp, z2, z3, Nat.or_zero]
        · have z2 : ∀ lg', bit lg' nx2 &&& 2 ^ q = 0 := fun lg => bit_and (by omega)
          have z3 : ∀ lg', lowBits lg (bit lg' nx2) &&& 2 ^ q = 0 := fun lg' => low_z (z2 _)
          have z4 : ∀ lg', lowBits lg (bit lg' b) &&& 2 ^ q = 0 := fun lg' => low_z (bit_and (by omega))
          have z5 : ∀ lg', lowBits lg (bit lg' bE) &&& 2 ^ q = 0 := fun lg' => low_z (bit_and (by omega))
          simp only [Nat.and_or_distrib_right, M6.t q hq hp, (M8.low (lg := lg)).t q hq hp, z2, z3, z4, z5, Nat.or_zero]
    · simp (maxSteps := 4000000) (maxDischargeDepth := 6) [↓step_none, ↓step_t, ↓step_f, ↓step_nt, ↓step_nf, ↓op_load, ↓op_store, ↓op_slice, ↓op_app, ↓op_islc, ↓P_skip, ↓P_exit, ↓P_ret, ↓P_seq, ↓P_cond, ↓P_blk, ↓P_reg, ↓P_draw, ↓P_nil, ↓P_cons, condP_t, condP_f, dum_ab, stepR, want_none, want_some, opRun, ev_t, ev_c, put_none, put_some, resAll, res_tmp, res_cell, oneOf, minI, maxI, min2A, max2A, mn2, mx2, mx3, rdBlk, wrBlk, newBlk, partA, abin, ibin, isShift, AV.cells, AV.one, lay, sub, fillA, lenA, toN, allApart, apartFrom, Nat.testBit, Mem.blk_set_same, Mem.blk_set_ne, Mem.set_set, bit_zero, bit_self, lowBits_or, lowBits_zero, len_setT, sl_same, sl_ne, len_frame, sl_frame,↓op_len, lenOp_slc, lenOp_nils, ↓Post.some, ↓Post_bind, ↓Post_ret, ↓Post_draw, ↓PostL_nil, ↓PostL_cons, Post_fail, ofOpt_some, ofOpt_none, eA_b, eA_i, eA_s, eA_nn, eA_np, eA_pn, eA_lnn, eA_lnp, eA_lpn, eA_i2, eA_i3, blt_dec, Nat.add_assoc, keeps_refl, keeps_at, keeps_up, new_one, and_pow, bit_hi, lowBits_pow, ble_dec, fr_refl, fr_at, fr_up, fr_p, dum_ab, reps, hlen]
      refine ⟨⟨-1, r2, ?_, ?_, ?_, ?_, ?_, ?_, u5, ow5, b5, by omega, pc0⟩, Mk.z ..⟩ <;> simp [len_setT, sl_same, sl_ne, hlen, g0, g2, g3, g4]
    rintro ⟨eC, tsC⟩ hC nxC tcC wrC ⟨he, ⟨sup, fld, hlenC, c0, c2, c3, c4, c5, uC, owC, bC, ltC, pcC⟩, MC⟩
    simp only at he
    subst he
    have lb := fun lg => ld_at uC.blk uC.bl (o := 1) (v := cv) rfl lg
    have lv := fun lg => ld_sub (n := 4) (o := 0) bC ltC (vs := [.str (nmc i), .int .i64 sup, .int .i64 fld, .nils]) rfl lg
    simp (maxSteps := 4000000) (maxDischargeDepth := 6) [↓step_none, ↓step_t, ↓step_f, ↓step_nt, ↓step_nf, ↓op_load, ↓op_store, ↓op_slice, ↓op_app, ↓op_islc, ↓P_skip, ↓P_exit, ↓P_ret, ↓P_seq, ↓P_cond, ↓P_blk, ↓P_reg, ↓P_draw, ↓P_nil, ↓P_cons, condP_t, condP_f, dum_ab, stepR, want_none, want_some, opRun, ev_t, ev_c, put_none, put_some, resAll, res_tmp, res_cell, oneOf, minI, maxI, min2A, max2A, mn2, mx2, mx3, rdBlk, wrBlk, newBlk, partA, abin, ibin, isShift, AV.cells, AV.one, lay, sub, fillA, lenA, toN, allApart, apartFrom, Nat.testBit, Mem.blk_set_same, Mem.blk_set_ne, Mem.set_set, bit_zero, bit_self, lowBits_or, lowBits_zero, len_setT, sl_same, sl_ne, len_frame, sl_frame,↓op_len, lenOp_slc, lenOp_nils, ↓Post.some, ↓Post_bind, ↓Post_ret, ↓Post_draw, ↓PostL_nil, ↓PostL_cons, Post_fail, ofOpt_some, ofOpt_none, eA_b, eA_i, eA_s, eA_nn, eA_np, eA_pn, eA_lnn, eA_lnp, eA_lpn, eA_i2, eA_i3, blt_dec, Nat.add_assoc, keeps_refl, keeps_at, keeps_up, new_one, and_pow, bit_hi, lowBits_pow, ble_dec, fr_refl, fr_at, fr_up, fr_p, dum_ab, reps, hlenC, c0, c2, c3, c4, c5, lb, lv]
    obtain ⟨cv', hT, nxT, tcT, wrT, eT, nT, owT, kT, dT, tT, wT⟩ := OW.push (sz := 4) (by decide) 61 56 owC [.str (nmc i), .int .i64 sup, .int .i64 fld, .nils] rfl (fun k hk => fits_few (by rw [css_len] at hk; omega) (by omega)) rfl 61 4 lg
    refine Post.of eT ?_
    have noT : ∀ q, bid cv = some q → nx0 ≤ q ∧ q ≠ b ∧ q ≠ b2 := own
    have uT : Us p s T0 h0 nx0 b2 b hT nxT nv cv .nils .nils := uC.other (by omega) (fun q => bid cv = some q) (fun q hq hx => kT q hq hx) own
    have ownT : ∀ x, bid cv' = some x → nx0 ≤ x ∧ x ≠ b ∧ x ≠ b2 := fun x hx => by
      rcases dT x hx with e | e
      · exact own x e
      · have := uC.bl; have := uC.b2b; have := uC.bn; omega
    obtain ⟨HF, stF, uF, kF⟩ := uT.put 1 cv' owT.one.1 owT.one.2 nv cv' .nils .nils rfl (by decide)
    simp (maxSteps := 4000000) (maxDischargeDepth := 6) [↓step_none, ↓step_t, ↓step_f, ↓step_nt, ↓step_nf, ↓op_load, ↓op_store, ↓op_slice, ↓op_app, ↓op_islc, ↓P_skip, ↓P_exit, ↓P_ret, ↓P_seq, ↓P_cond, ↓P_blk, ↓P_reg, ↓P_draw, ↓P_nil, ↓P_cons, condP_t, condP_f, dum_ab, stepR, want_none, want_some, opRun, ev_t, ev_c, put_none, put_some, resAll, res_tmp, res_cell, oneOf, minI, maxI, min2A, max2A, mn2, mx2, mx3, rdBlk, wrBlk, newBlk, partA, abin, ibin, isShift, AV.cells, AV.one, lay, sub, fillA, lenA, toN, allApart, apartFrom, Nat.testBit, Mem.blk_set_same, Mem.blk_set_ne, Mem.set_set, bit_zero, bit_self, lowBits_or, lowBits_zero, len_setT, sl_same, sl_ne, len_frame, sl_frame,↓op_len, lenOp_slc, lenOp_nils, ↓Post.some, ↓Post_bind, ↓Post_ret, ↓Post_draw, ↓PostL_nil, ↓PostL_cons, Post_fail, ofOpt_some, ofOpt_none, eA_b, eA_i, eA_s, eA_nn, eA_np, eA_pn, eA_lnn, eA_lnp, eA_lpn, eA_i2, eA_i3, blt_dec, Nat.add_assoc, keeps_refl, keeps_at, keeps_up, new_one, and_pow, bit_hi, lowBits_pow, ble_dec, fr_refl, fr_at, fr_up, fr_p, dum_ab, reps, hlenC, c0, c2, c3, c4, c5, stF, c4, ci]
    have MT : Mk p s nx0 tcT wrT := ⟨fun q hq hp => wT q fun e => by have := own q e; omega, fun q hq hp => tT q (fun e => by have := own q e; omega) (by omega)⟩
    refine Round.nor (m' := 3 - (i + 1)) (by omega) ⟨i + 1, cv', L ++ [⟨nmc i, sup, fld, .nils, []⟩], rfl, by omega, ?_, ?_, ?_, ?_, ?_, uF, ?_, ownT, by rw [List.length_append, hL]; rfl, cl.more hL pcC, ?_⟩
    any_goals simp [len_setT, sl_same, sl_ne, c0, c2, c3, c4, c5, hlenC]
    · have : css (L ++ [⟨nmc i, sup, fld, .nils, []⟩]) = css L ++ [[.str (nmc i), .int .i64 sup, .int .i64 fld, .nils]] := by unfold css; rw [List.map_append]; rfl
      rw [this]
      exact owT.keep (Nat.le_refl _) fun x hx => kF x (ownT x hx).2.1
    · refine ⟨fun q hq hp => ?_, fun q hq hp => ?_⟩
      · have z1 : ∀ lg, bit lg b &&& 2 ^ q = 0 := fun lg => bit_and (by omega)
        have z2 : ∀ lg, bit lg nx2 &&& 2 ^ q = 0 := fun lg => bit_and (by omega)
        simp only [Nat.and_or_distrib_right, mk.w q hq hp, M1.w q hq hp, M2.w q hq hp, MT.w q hq hp, z1, z2, MC.w q hq hp, M5.w q hq hp, Nat.or_zero]
      · have z1 : ∀ lg, bit lg b &&& 2 ^ q = 0 := fun lg => bit_and (by omega)
        have z2 : ∀ lg, bit lg nx2 &&& 2 ^ q = 0 := fun lg => bit_and (by omega)
        simp only [Nat.and_or_distrib_right, mk.t q hq hp, M1.t q hq hp, M2.t q hq hp, MT.t q hq hp, z1, z2, MC.t q hq hp, M5.t q hq hp, Nat.or_zero]
  · have c' : ¬ (i : Int) ≤ (r1 : Int) := by omega
    simp (maxSteps := 4000000) (maxDischargeDepth := 6) [↓step_none, ↓step_t, ↓step_f, ↓step_nt, ↓step_nf, ↓op_load, ↓op_store, ↓op_slice, ↓op_app, ↓op_islc, ↓P_skip, ↓P_exit, ↓P_ret, ↓P_seq, ↓P_cond, ↓P_blk, ↓P_reg, ↓P_draw, ↓P_nil, ↓P_cons, condP_t, condP_f, dum_ab, stepR, want_none, want_some, opRun, ev_t, ev_c, put_none, put_some, resAll, res_tmp, res_cell, oneOf, minI, maxI, min2A, max2A, mn2, mx2, mx3, rdBlk, wrBlk, newBlk, partA, abin, ibin, isShift, AV.cells, AV.one, lay, sub, fillA, lenA, toN, allApart, apartFrom, Nat.testBit, Mem.blk_set_same, Mem.blk_set_ne, Mem.set_set, bit_zero, bit_self, lowBits_or, lowBits_zero, len_setT, sl_same, sl_ne, len_frame, sl_frame,↓op_len, lenOp_slc, lenOp_nils, ↓Post.some, ↓Post_bind, ↓Post_ret, ↓Post_draw, ↓PostL_nil, ↓PostL_cons, Post_fail, ofOpt_some, ofOpt_none, eA_b, eA_i, eA_s, eA_nn, eA_np, eA_pn, eA_lnn, eA_lnp, eA_lpn, eA_i2, eA_i3, blt_dec, Nat.add_assoc, keeps_refl, keeps_at, keeps_up, new_one, and_pow, bit_hi, lowBits_pow, ble_dec, fr_refl, fr_at, fr_up, fr_p, dum_ab, reps, hlen, g0, g2, g3, g4, c, c']
    have ow1 : OW 4 cv h1 nx1 (css L) := ow.keep (by omega) fun x hx => k1 x (ow.lt hx) (by have := own x hx; omega)
    refine Round.exit (R := U5R p s T0 h0 nx0 b2 b nv) ⟨rfl, i, cv, L, by omega, by omega, ?_, ?_, ?_, ?_, u1, ow1, own, hL, cl, mk.or M1⟩ <;> simp [len_setT, sl_same, sl_ne, hlen, g0, g2, g3]
end Go.Proofs.YtlbjdkhpabpmiaaT

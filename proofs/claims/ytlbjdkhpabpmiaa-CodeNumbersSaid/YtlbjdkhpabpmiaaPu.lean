/- Code: rows whose elements are laid whole; units; code of pairs. -/
import Derived.Test.YtlbjdkhpabpmiaaKn
namespace Go.Proofs.YtlbjdkhpabpmiaaT
open Go Go.Proofs.YtlbjdkhpabpmiaaE Go.Proofs.YtlbjdkhpabpmiaaB
set_option linter.unusedSimpArgs false
set_option linter.unusedVariables false

theorem flat_put {sz : Nat} : ∀ {L : List (List AV)}, (∀ x ∈ L, x.length = sz) → ∀ {i : Nat}, i < L.length → ∀ (y : List AV), y.length = sz → lay L.flatten (i * sz) y = (L.set i y).flatten
  | x :: L, hs, 0, _, y, hy => by
    have hx := hs x (by simp)
    unfold lay
    rw [Nat.zero_mul, List.take_zero, List.nil_append, List.flatten_cons, List.set_cons_zero, List.flatten_cons, Nat.zero_add, hy, ← hx, List.drop_left]
  | x :: L, hs, i + 1, hi, y, hy => by
    have hx := hs x (by simp)
    have ih := flat_put (L := L) (fun z hz => hs z (by simp [hz])) (i := i) (by simpa using hi) y hy
    rw [List.set_cons_succ, List.flatten_cons, List.flatten_cons, ← ih]
    unfold lay
    rw [show (i + 1) * sz = x.length + i * sz by rw [hx, Nat.succ_mul, Nat.add_comm], List.take_length_add_append, Nat.add_assoc, List.drop_length_add_append]
    simp only [List.append_assoc]
theorem putO {sz : Nat} {s : AV} {h : Mem} {nx : Nat} {L : List (List AV)} (g : OW sz s h nx L) {i : Nat} (hi : i < L.length) (y : List AV) (hy : y.length = sz) (ho : y.all AV.one = true) : ∃ b, bid s = some b ∧ b < nx ∧ islcA sz s (.int .i64 (i : Int)) = A.ret (.ptr b (i * sz)) ∧
    ∃ H, (∀ lg, stA sz (.ptr b (i * sz)) (.agg y) h nx lg = some ⟨.tup [], H, nx, bit lg b, bit lg b⟩) ∧ OW sz s H nx (L.set i y) ∧ ∀ q, ¬ q = b → H.blk q = h.blk q := by
  obtain ⟨b, e1, e2, e3, _, _⟩ := g.at hi
  refine ⟨b, e1, e2, e3, ?_⟩
  rcases g with ⟨rfl, rfl⟩ | ⟨b, rfl, rfl, hb, K, hK⟩ | ⟨b, t, r, rfl, hb, hs, hK⟩ | ⟨b, t, z, g, rfl, hb, hs, hK⟩
  · exact absurd hi (Nat.not_lt_zero _)
  · exact absurd hi (Nat.not_lt_zero _)
  · cases e1
    have fl := flat_len hs
    have hle : i * sz + sz ≤ L.length * sz := by rw [← Nat.succ_mul]; exact Nat.mul_le_mul_right _ hi
    have st := fun lg => st_at hK hb (n := sz) (o := i * sz) (.agg y) hy ho (by rw [List.length_append, fl]; omega) lg
    have e : lay (L.flatten ++ r) (i * sz) y = (L.set i y).flatten ++ r := by
      rw [lay_app _ _ _ _ (by rw [fl, hy]; omega), flat_put hs hi y hy]
    simp only [AV.cells, e] at st
    refine ⟨_, st, .inr (.inr (.inl ⟨b, t, r, by rw [List.length_set], hb, fun x hx => ?_, Mem.blk_set_same ..⟩)), fun q hq => Mem.blk_set_ne _ _ _ _ hq⟩
    rcases List.mem_or_eq_of_mem_set hx with hx | hx
    · exact hs x hx
    · rw [hx]; exact hy
  · cases e1
    have fl := flat_len hs
    have hle : i * sz + sz ≤ L.length * sz := by rw [← Nat.succ_mul]; exact Nat.mul_le_mul_right _ hi
    have st := fun lg => st_at hK hb (n := sz) (o := i * sz) (.agg y) hy ho (by rw [fl]; omega) lg
    have e : lay L.flatten (i * sz) y = (L.set i y).flatten := flat_put hs hi y hy
    simp only [AV.cells, e] at st
    refine ⟨_, st, .inr (.inr (.inr ⟨b, t, z, g, by rw [List.length_set], hb, fun x hx => ?_, Mem.blk_set_same ..⟩)), fun q hq => Mem.blk_set_ne _ _ _ _ hq⟩
    rcases List.mem_or_eq_of_mem_set hx with hx | hx
    · exact hs x hx
    · rw [hx]; exact hy
/-- A tape's unit. -/
def UQ.u (nv cv mv ov : AV) (c : Nat) : U := ⟨nv, cv, mv, ov, 6, 6, c, 9⟩
theorem UQ.ul {lo : Nat} {nv cv mv ov : AV} {h : Mem} {nx : Nat} {L : List C} {M : List (List AV)} (g : UQ lo nv cv mv ov h nx L M) : UL (UQ.u nv cv mv ov L.length) := by
  obtain ⟨x, rfl⟩ := g.nm
  exact ⟨rfl, g.cr.lenOp, by have e := g.ms.lenOp; rw [g.m9] at e; exact e, by simp only [UQ.u, U.cs, List.all_cons, List.all_nil, g.cr.r.one.2, g.ms.one.2, g.one]; rfl⟩
/-! ### Code of pairs -/
theorem pc_at : ∀ {P : List (Int × Int)} {i : Nat} (h : i < P.length), (pcode P).getD (2 * i) 0 = P[i].1 ∧ (pcode P).getD (2 * i + 1) 0 = P[i].2
  | x :: P, 0, _ => ⟨rfl, rfl⟩
  | x :: P, i + 1, h => by
    have ih := pc_at (P := P) (i := i) (by simpa using h)
    exact ih
def mP (a t : Int) (cv : AV) (P : List (Int × Int)) : M := ⟨a, t, .nils, [], cv, pcode P⟩
theorem mP_short {a t : Int} {cv : AV} {P : List (Int × Int)} (hP : P.length ≤ 64) (a0 : 0 ≤ a) (t0 : 0 ≤ t) (h8 : a + t ≤ 8) : shortV (mP a t cv P) = true := by
  unfold shortV mP
  simp only [pcode_len, List.length_nil]
  simp [show 2 * P.length ≤ 128 by omega, a0, t0, show a ≤ 8 by omega, show t ≤ 8 - a by omega]
def endOp (x : Int) : Bool := x == 14 || x == 19 || x == 16
theorem mP_ends {a t : Int} {cv : AV} {P : List (Int × Int)} {n : Nat} (hn : P.length = n + 1) : endsV (mP a t cv P) = endOp (P[n]'(by omega)).1 := by
  unfold endsV evenV lastV mP endOp
  simp only [pcode_len, hn]
  rw [show 2 * (n + 1) - 2 = 2 * n by omega, (pc_at (P := P) (i := n) (by omega)).1, decide_eq_true (by omega : 2 ≤ 2 * (n + 1)), decide_eq_true (by omega : 2 * (n + 1) % 2 = 0)]
  rfl
theorem mP_code {u : U} {a t : Int} {cv : AV} {P : List (Int × Int)} {n : Nat} (hn : P.length = n + 1) (hP : P.length ≤ 64) (a0 : 0 ≤ a) (t0 : 0 ≤ t) (h8 : a + t ≤ 8) : (codeV u (mP a t cv P) = 0) ↔ (endOp (P[n]'(by omega)).1 = true ∧ ∀ i (h : i < P.length), instV (mP a t cv P) (2 * i) P[i].1 P[i].2.toNat = true) := by
  unfold codeV
  rw [mP_short hP a0 t0 h8, mP_ends hn, if_pos rfl]
  have hl : litsOk u (mP a t cv P).L = true := rfl
  have ha : ∀ i (h : i < P.length), insAt (mP a t cv P) (2 * i) = instV (mP a t cv P) (2 * i) P[i].1 P[i].2.toNat := fun i h => by
    unfold insAt
    show instV _ _ ((pcode P).getD (2 * i) 0) ((pcode P).getD (2 * i + 1) 0).toNat = _
    rw [(pc_at h).1, (pc_at h).2]
  have hc : (mP a t cv P).c.length = 2 * P.length := pcode_len P
  rw [hl, Bool.and_true]
  constructor
  · intro e
    cases he : endOp (P[n]'(by omega)).1 with
    | false => rw [he, if_neg (by decide)] at e; exact absurd e (by decide)
    | true =>
      rw [he, if_pos rfl] at e
      refine ⟨rfl, fun i h => ?_⟩
      cases hi : insAt (mP a t cv P) (2 * i) with
      | true => rw [← ha i h]; exact hi
      | false =>
        rw [pcsV_no (p := 2 * i) (by omega) (by omega) hi] at e
        exact absurd e (by decide)
  · rintro ⟨he, hi⟩
    rw [he, if_pos rfl, pcsV_yes fun p hp h2 => ?_]
    · rfl
    · obtain ⟨i, rfl⟩ : ∃ i, p = 2 * i := ⟨p / 2, by omega⟩
      rw [ha i (by omega)]
      exact hi i (by omega)
end Go.Proofs.YtlbjdkhpabpmiaaT

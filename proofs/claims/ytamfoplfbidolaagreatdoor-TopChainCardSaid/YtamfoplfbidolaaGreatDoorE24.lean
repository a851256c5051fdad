/- The engine, part 24: rows that grow. -/
import Derived.Test.YtamfoplfbidolaaGreatDoorE23
namespace Go.Proofs.YtamfoplfbidolaaGreatDoorE
open Go Go.RowKit
set_option linter.unusedVariables false
set_option linter.unusedSimpArgs false

/-- A row of one-cell elements that the call itself has made by append. -/
def GRow (s : AV) (h : Mem) (lo nx : Nat) (vs : List AV) : Prop :=
  (s = .nils ∧ vs = []) ∨ ∃ b ty, lo ≤ b ∧ b < nx ∧ s = .slc b 0 vs.length none ∧ h.blk b = some ⟨ty, 1, true, true, vs⟩
theorem GRow.nil (h : Mem) (lo nx : Nat) : GRow .nils h lo nx [] := .inl ⟨rfl, rfl⟩
theorem GRow.keep {s : AV} {h h' : Mem} {lo nx nx' : Nat} {vs : List AV} (g : GRow s h lo nx vs) (hn : nx ≤ nx') (e : ∀ b, lo ≤ b → b < nx → h'.blk b = h.blk b) : GRow s h' lo nx' vs := by
  rcases g with g | ⟨b, ty, h1, h2, h3, h4⟩
  · exact .inl g
  · exact .inr ⟨b, ty, h1, by omega, h3, by rw [e b h1 h2]; exact h4⟩
theorem GRow.new {s : AV} {h : Mem} {lo nx : Nat} {vs : List AV} (g : GRow s h lo nx vs) (k : Option Blk) : GRow s (h.set nx k) lo (nx + 1) vs :=
  g.keep (Nat.le_succ _) fun b _ hb => Mem.blk_set_ne _ _ _ _ (by omega)
theorem GRow.irow {k : IntKind} {s : AV} {h : Mem} {lo nx : Nat} {l : List Int} (g : GRow s h lo nx (l.map (AV.int k ·))) : IRow k s h nx l := by
  rcases g with ⟨rfl, e⟩ | ⟨b, ty, h1, h2, rfl, h4⟩
  · cases l with
    | nil => exact .inl ⟨rfl, rfl⟩
    | cons x l => cases e
  · refine .inr ⟨b, none, by rw [List.length_map], fun _ => ⟨h2, _, h4, fun i hi => ?_⟩⟩
    simp only
    rw [List.getElem?_map, List.getElem?_eq_getElem hi]
    rfl
theorem sub_all (vs : List AV) (m : Nat) (e : m = vs.length) : sub vs 0 m = some vs := by
  subst e
  unfold sub
  rw [Nat.ble_eq_true_of_le (by omega)]
  simp

/-- One element more. -/
theorem app_one {s : AV} {h : Mem} {lo nx lg : Nat} {vs : List AV} (ty bytes : Nat) (x : AV) (g : GRow s h lo nx vs) (hlg : lg ≤ lo) (hlo : lo ≤ nx) (hf : fits (vs.length + 1) bytes = true) (hx : x.one = true) :
    Post (appA ty 1 bytes 1 s [x] h nx lg) fun s' h' nx' tc wr => nx' = nx + 1 ∧ GRow s' h' lo (nx + 1) (vs ++ [x]) ∧ (∀ b, b < lo → b < nx → h'.blk b = h.blk b) ∧ tc = 0 ∧ wr = 0 := by
  have hall : [x].all AV.one = true := by simp [hx]
  rcases g with ⟨rfl, rfl⟩ | ⟨b, t, h1, h2, rfl, h4⟩
  · have e : appA ty 1 bytes 1 .nils [x] h nx lg = some ⟨.slc nx 0 1 none, h.set nx (some ⟨ty, 1, true, true, [x]⟩), nx + 1, 0, 0⟩ := by
      have hf' : fits 1 bytes = true := hf
      unfold appA
      simp [hf', A.bind, newBlk, A.ret, Nat.beq]
    exact Post.of e ⟨rfl, .inr ⟨nx, ty, hlo, by omega, rfl, Mem.blk_set_same ..⟩, fun b hb hb2 => Mem.blk_set_ne _ _ _ _ (by omega), rfl, rfl⟩
  · have hb1 : Nat.blt b nx = true := blt_of h2
    have hbit : bit lg b = 0 := by
      unfold bit
      cases hc : Nat.blt b lg with
      | false => rfl
      | true => have := Nat.le_of_ble_eq_true hc; omega
    have hble : Nat.ble (0 + (vs.length + 1) * 1) vs.length = false := by
      cases hc : Nat.ble (0 + (vs.length + 1) * 1) vs.length with
      | false => rfl
      | true => have := Nat.le_of_ble_eq_true hc; omega
    have e : appA ty 1 bytes 1 (.slc b 0 vs.length none) [x] h nx lg = some ⟨.slc nx 0 (vs.length + 1) none, (h.set b none).set nx (some ⟨t, 1, true, true, vs ++ [x]⟩), nx + 1, 0, 0⟩ := by
      have hsub := sub_all vs (vs.length * 1) (by omega)
      have hn1 : Nat.beq 1 0 = false := rfl
      unfold appA
      simp only [hn1, A.bind, rdBlk, hb1, h4, Nat.beq_refl, Bool.true_and, hall, hble, hf, hsub, A.ofOpt, A.ret, movBlk, hbit]
      rfl
    exact Post.of e ⟨rfl, .inr ⟨nx, t, by omega, by omega, by rw [List.length_append]; rfl, Mem.blk_set_same ..⟩, fun c hc hc2 => by rw [Mem.blk_set_ne _ _ _ _ (by omega), Mem.blk_set_ne _ _ _ _ (by omega)], rfl, rfl⟩

end Go.Proofs.YtamfoplfbidolaaGreatDoorE

/- The engine, part 26: what a row's opener says of plain arguments of several cells. -/
import Derived.Test.YtamfoplfbidolaaGreatDoorE25
import Derived.SizedLaws
import Derived.WideShapes
namespace Go.Proofs.YtamfoplfbidolaaGreatDoorE
open Go Go.RowKit
set_option linter.unusedVariables false
set_option linter.unusedSimpArgs false
section
variable {H : Type} {enc : TypeId × Value → H} {P : Program} {W : World} {base : Nat} {held : Bool}

theorem agg_of_okWide {r : Reach} {b0 : Nat} {t : TypeId} {v : Value} (h : Value.okWide P W r b0 t v) (ha : (match P.underlying t with | some (.struct _) => true | some (.array _ _) => true | _ => false) = true) : ∃ xs : List Value, v = .agg xs.toArray := by
  unfold Value.okWide at h
  split at h
  · obtain ⟨cs, h1, _⟩ := h; exact ⟨cs.toList, h1⟩
  · obtain ⟨cs, h1, _⟩ := h; exact ⟨cs.toList, h1⟩
  · rename_i h1 h2
    split at ha
    · rename_i e; exact absurd e (h1 _)
    · rename_i e; exact absurd e (h2 _ _)
    · cases ha

theorem open_plain {d : Nat} {sp : Nat → Bool} {t : TypeId} {ks : List Leaf} (hk : leaves P d t = some ks) {xs : List Value} {D : DataW H} {ps : List MemPlace} (h : DataW.Trod enc P W base sp held t (.agg xs.toArray) D ps) : ∃ ys, ofVals xs = some ys ∧ LeavesV ks ys := by
  obtain ⟨fuel, hf⟩ := h
  exact plain_of_trod d hk hf

theorem open_prows {d : Nat} {t e : TypeId} {ks : List Leaf} (hu : P.underlying t = some (.slice e)) (hk : leaves P d e = some ks) {a : Option Addr} {len cap : Nat} {D : DataW H} {ps : List MemPlace}
    (h : DataW.Trod enc P W base (fun _ => true) held t (.slice a len cap) D ps) : ∃ zs, IsRows ks W a len cap zs := by
  obtain ⟨fuel, hf⟩ := h
  exact rows_of_trod hu hk hf

theorem sized_any {sp : Nat → Bool} {t e : TypeId} {a : Option Addr} {len cap : Nat} {d : DataW H} {ps : List MemPlace} {ts : List TypeId} {ds : List (DataW H)} {j : Nat}
    (hsz : (DataW.weightsEach P ts ds).all (· ≤ reachBytes) = true) (ht : ts[j]? = some t) (hd : ds[j]? = some d) (hu : P.underlying t = some (.slice e)) {B : Nat} (hB : P.bytesOf e = B)
    (h : DataW.Trod enc P W base sp held t (.slice a len cap) d ps) : len * B ≤ 140737488351232 := by
  obtain ⟨fuel, hf⟩ := h
  rcases DataW.trod_slice hu hf with ⟨h0, _⟩ | ⟨x, l, c, elems, rest, n, _, h0, hx, hb, hl, hm, hlen, hel, hsp, _⟩
  · simp only [Value.cells, List.cons.injEq, Value.slice.injEq, and_true] at h0
    obtain ⟨rfl, rfl, rfl⟩ := h0
    simp
  · simp only [Value.cells, List.cons.injEq, Value.slice.injEq, and_true] at h0
    obtain ⟨rfl, rfl, rfl⟩ := h0
    obtain ⟨hx, _⟩ := Prod.mk.inj hx
    subst hx
    have z := sized_slice hsz ht hd hu
    rw [hB] at z
    simp only [List.length_map] at z
    refine Nat.le_trans (Nat.mul_le_mul_right _ ?_) z
    omega
end

theorem row_srow_over {sz : Nat} {v : AV} {h : Mem} {m : Nat} {l : List (List AV)} (r : SRow sz v h m l) {cap n nx : Nat} (k : Option Blk) (hm : m ≤ n) (hn : m ≤ nx) : SRow sz v (rowMemK cap h n k) nx l := by
  cases cap with
  | zero => exact r.keep hn (fun _ _ => rfl)
  | succ c => exact r.keep hn (fun b hb => Mem.blk_set_ne _ _ _ _ (by omega))
theorem row_irow_over {k' : IntKind} {v : AV} {h : Mem} {m : Nat} {l : List Int} (r : IRow k' v h m l) {cap n nx : Nat} (k : Option Blk) (hm : m ≤ n) (hn : m ≤ nx) : IRow k' v (rowMemK cap h n k) nx l := by
  cases cap with
  | zero => exact r.keep hn (fun _ _ => rfl)
  | succ c => exact r.keep hn (fun b hb => Mem.blk_set_ne _ _ _ _ (by omega))
end Go.Proofs.YtamfoplfbidolaaGreatDoorE

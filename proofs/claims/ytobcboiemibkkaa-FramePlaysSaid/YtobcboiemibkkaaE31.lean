/- The engine, part 31: how long an argument that is a slice may be. -/
import Derived.Test.YtobcboiemibkkaaE30
import Derived.Test.YtobcboiemibkkaaE26
namespace Go.Proofs.YtobcboiemibkkaaE
open Go Go.RowKit
set_option linter.unusedVariables false
set_option linter.unusedSimpArgs false

def AV.rowLen : AV → Nat
  | .slc _ _ n _ => n
  | _ => 0
theorem rowLen_of {m : Mp} : ∀ {x : AV} {a : Option Addr} {len cap : Nat}, VR m x (.slice a len cap) → x.rowLen = len
  | .slc b o n c, a, len, cap, h => by
    simp only [VR] at h
    obtain ⟨_, _, _, _, _, e, _⟩ := h
    cases e; rfl
  | .nils, a, len, cap, h => by
    simp only [VR] at h
    cases h; rfl
  | .bool _, _, _, _, h | .int _ _, _, _, _, h | .str _, _, _, _, h | .null, _, _, _, h | .nili, _, _, _, h | .nilf, _, _, _, h | .nilm, _, _, _, h => by simp only [VR] at h; cases h
  | .ptr _ _, _, _, _, h | .map _, _, _, _, h => by simp only [VR] at h; obtain ⟨_, _, _, e⟩ := h; cases e
  | .ifc _ _, _, _, _, h | .agg _, _, _, _, h | .tup _, _, _, _, h => by simp only [VR] at h; obtain ⟨_, e, _⟩ := h; cases e
  | .fn _ _ _, _, _, _, h => by simp only [VR] at h; obtain ⟨_, _, e, _⟩ := h; cases e
/-- How long the slices among the arguments are. -/
def Lens (vals : List Value) (avs : List AV) : Prop := ∀ (i : Nat) (a : Option Addr) (len cap : Nat), vals[i]? = some (Value.slice a len cap) → ∃ x : AV, avs[i]? = some x ∧ x.rowLen = len
theorem Lens.of {m : Mp} : ∀ {avs : List AV} {vals : List Value}, VRs m avs vals → Lens vals avs
  | [], _, h => by
    cases h
    intro i a len cap e
    simp at e
  | x :: xs, vs, h => by
    simp only [VRs] at h
    obtain ⟨y, zs, rfl, h1, h2⟩ := h
    intro i a len cap e
    cases i with
    | zero =>
      simp only [List.getElem?_cons_zero, Option.some.injEq] at e
      subst e
      exact ⟨x, rfl, rowLen_of h1⟩
    | succ i =>
      simp only [List.getElem?_cons_succ] at e
      exact Lens.of h2 i a len cap e
theorem lay_calls_n {P : Program} {T : FuncId → Option AF} (hT : TableOk P T) (f : FuncId) {ks : List Kd} {vals : List Value} (w : World) (L : Lay w.heap.size w ks vals) (law : ∀ (h : Mem) (p : Nat) (avs : List AV), KdsV h p ks avs → Lens vals avs → Yes T f avs h p) :
    Calls P f vals.toArray w fun e w' => e = .returned (.bool true) ∧ Below w.heap.size w w' := by
  obtain ⟨n, h, m, avs, e0, v0, k0⟩ := L 0 Mem.empty _ (laid_none w)
  obtain ⟨fuel, h', n', tc, wr, e⟩ := law h n avs k0 (Lens.of v0)
  refine (call_sound hT fuel f _ _ _ 0 _ _ m w.heap.size w (Nat.zero_le _) e e0.laid.hr v0 (fun b h1 h2 => e0.laid.free b h1)).2.mono ?_
  rintro e' w' ⟨m', u, rfl, q1, q2, q3, q4, q5⟩
  rw [q3.bool_inv]
  exact ⟨rfl, q4⟩
end Go.Proofs.YtobcboiemibkkaaE

/- TopBlocks: for every input the function answers true: runs of the second executor whose numbers are unknown, the square among them. -/
import Derived.Test.YtnooolhcolkpiaaGreatDoorGt
import Derived.Test.YtnooolhcolkpiaaGreatDoorW
namespace Go.Proofs.YtnooolhcolkpiaaGreatDoorT
open Go Go.Proofs.YtnooolhcolkpiaaGreatDoorE Go.Proofs.YtnooolhcolkpiaaGreatDoorX Go.Proofs.YtnooolhcolkpiaaGreatDoorG
set_option linter.unusedVariables false
set_option maxRecDepth 100000

noncomputable def bg (l h : Int) : Gm := ⟨[(-9223372036854775808, 9223372036854775807), (l, h), (0, 10000)], [(1, 1, 2)]⟩
noncomputable def bw (l h : Int) : List (List V × V) := [([.sym (bg l h) .i64 0 [1], .int .i64 (-100), .int .i64 100], .sym (bg l h) .i64 0 [0, 1])]
theorem blocks_run1 : okR (run3 (tab (bw 0 100)) 300 q6 [.sym (bg 0 100) .i64 0 [1], .b false] .lf .e 0 0 0) = true := by kernel_rfl
theorem blocks_run2 : okR (run3 (tab (bw (-100) (-1))) 300 q6 [.sym (bg (-100) (-1)) .i64 0 [1], .b false] .lf .e 0 0 0) = true := by kernel_rfl
theorem blocks_run3 : okR (run3 (tab (bw 0 100)) 300 q6 [.sym (bg 0 100) .i64 0 [1], .b true] .lf .e 0 0 0) = true := by kernel_rfl
theorem blocks_run4 : okR (run3 (tab (bw (-100) (-1))) 300 q6 [.sym (bg (-100) (-1)) .i64 0 [1], .b true] .lf .e 0 0 0) = true := by kernel_rfl
def br (a x : Int) : Nat → Int
  | 0 => a
  | 1 => x
  | 2 => x * x
  | _ => 0
theorem sq_le {x : Int} (h1 : -100 ≤ x) (h2 : x ≤ 100) : 0 ≤ x * x ∧ x * x ≤ 10000 := by
  refine ⟨?_, ?_⟩
  · rcases Int.le_total 0 x with h | h
    · exact Int.mul_nonneg h h
    · exact Int.mul_nonneg_of_nonpos_of_nonpos h h
  · have h3 : 0 ≤ (100 - x) * (100 + x) := Int.mul_nonneg (by omega) (by omega)
    have h4 : (100 - x) * (100 + x) = 10000 - x * x := by
      rw [Int.sub_mul, Int.mul_add, Int.mul_add, Int.mul_comm x 100]; omega
    omega
theorem bg_in {a x l h : Int} (ha : -9223372036854775808 ≤ a ∧ a ≤ 9223372036854775807) (hx : l ≤ x ∧ x ≤ h) (h1 : -100 ≤ x) (h2 : x ≤ 100) : Inn (br a x) (bg l h) := by
  refine ⟨fun i l h e => ?_, fun i j p hp => ?_⟩
  · rcases i with _ | _ | _ | i
    · cases e; exact ha
    · cases e; exact hx
    · cases e; exact sq_le h1 h2
    · simp [bg] at e
  · simp only [bg, List.mem_cons, List.mem_nil_iff, or_false, Prod.mk.injEq] at hp
    obtain ⟨rfl, rfl, rfl⟩ := hp
    rfl
theorem blocks_law (a0 : Int) (w0 : (Lit.int .i64 a0).wf = true) (a1 : Bool) : Yes (compF Tryz.prog) 6 [.int .i64 a0, .bool a1] Mem.empty 0 := by
  have ha := wf_i64 w0
  obtain ⟨k, hk1, hk2, _, hk⟩ := within_ex a0 (-100) 100 (by omega) (by omega) (by omega)
  have e0 : (0 : Int) + dotL (br a0 k) [1] 0 = a0 := by simp [dotL, br]
  have ek : (0 : Int) + dotL (br a0 k) [0, 1] 0 = k := by simp [dotL, br]
  have main : ∀ l h : Int, l ≤ k ∧ k ≤ h → okR (run3 (tab (bw l h)) 300 q6 [.sym (bg l h) .i64 0 [1], .b a1] .lf .e 0 0 0) = true → Yes (compF Tryz.prog) 6 [.int .i64 a0, .bool a1] Mem.empty 0 := by
    intro l h hx run
    have hg := bg_in ha hx hk1 hk2
    have ho : ∀ q ∈ bw l h, OrcOk (br a0 k) (compF Tryz.prog) 7 q := by
      intro q hq
      simp only [bw, List.mem_cons, List.mem_nil_iff, or_false] at hq
      subst hq
      exact orc_of (bs := [.int .i64 a0, .int .i64 (-100), .int .i64 100]) (by simp only [List.map_cons, List.map_nil, sym_num e0 ha.1 ha.2]; rfl) (sym_vr hg ek (by omega) (by omega)) hk
    exact yes_run (tab_ok ho) (.cons _ _ _ _ (sym_vr hg e0 ha.1 ha.2) (.cons _ _ _ _ (.b a1) .nil)) run
  by_cases c : 0 ≤ k
  · cases a1
    · exact main 0 100 ⟨c, hk2⟩ blocks_run1
    · exact main 0 100 ⟨c, hk2⟩ blocks_run3
  · cases a1
    · exact main (-100) (-1) ⟨hk1, by omega⟩ blocks_run2
    · exact main (-100) (-1) ⟨hk1, by omega⟩ blocks_run4
end Go.Proofs.YtnooolhcolkpiaaGreatDoorT

/- TopStop: for every input the function answers true: runs of the second executor whose number is unknown, below zero or not. -/
import Derived.Test.YtnooolhcolkpiaaGreatDoorGt
import Derived.Test.YtnooolhcolkpiaaGreatDoorW
namespace Go.Proofs.YtnooolhcolkpiaaGreatDoorT
open Go Go.Proofs.YtnooolhcolkpiaaGreatDoorE Go.Proofs.YtnooolhcolkpiaaGreatDoorX Go.Proofs.YtnooolhcolkpiaaGreatDoorG
set_option linter.unusedVariables false
set_option maxRecDepth 100000

noncomputable def pg (l h : Int) : Gm := ⟨[(-9223372036854775808, 9223372036854775807), (l, h)], []⟩
noncomputable def pw (l h : Int) : List (List V × V) := [([.sym (pg l h) .i64 0 [1], .int .i64 (-100), .int .i64 100], .sym (pg l h) .i64 0 [0, 1])]
theorem stop_run1 : okR (run3 (tab (pw 0 100)) 300 q5 [.sym (pg 0 100) .i64 0 [1]] .lf .e 0 0 0) = true := by kernel_rfl
theorem stop_run2 : okR (run3 (tab (pw (-100) (-1))) 300 q5 [.sym (pg (-100) (-1)) .i64 0 [1]] .lf .e 0 0 0) = true := by kernel_rfl
def pr (a x : Int) : Nat → Int
  | 0 => a
  | 1 => x
  | _ => 0
theorem pg_in {a x l h : Int} (ha : -9223372036854775808 ≤ a ∧ a ≤ 9223372036854775807) (hx : l ≤ x ∧ x ≤ h) : Inn (pr a x) (pg l h) := by
  refine ⟨fun i l h e => ?_, fun i j p hp => by cases hp⟩
  rcases i with _ | _ | i
  · cases e; exact ha
  · cases e; exact hx
  · simp [pg] at e
theorem stop_law (a0 : Int) (w0 : (Lit.int .i64 a0).wf = true) : Yes (compF Tryz.prog) 5 [.int .i64 a0] Mem.empty 0 := by
  have ha := wf_i64 w0
  obtain ⟨k, hk1, hk2, _, hk⟩ := within_ex a0 (-100) 100 (by omega) (by omega) (by omega)
  have e0 : (0 : Int) + dotL (pr a0 k) [1] 0 = a0 := by simp [dotL, pr]
  have ek : (0 : Int) + dotL (pr a0 k) [0, 1] 0 = k := by simp [dotL, pr]
  have main : ∀ l h : Int, l ≤ k ∧ k ≤ h → okR (run3 (tab (pw l h)) 300 q5 [.sym (pg l h) .i64 0 [1]] .lf .e 0 0 0) = true → Yes (compF Tryz.prog) 5 [.int .i64 a0] Mem.empty 0 := by
    intro l h hx run
    have hg := pg_in ha hx
    have ho : ∀ q ∈ pw l h, OrcOk (pr a0 k) (compF Tryz.prog) 7 q := by
      intro q hq
      simp only [pw, List.mem_cons, List.mem_nil_iff, or_false] at hq
      subst hq
      exact orc_of (bs := [.int .i64 a0, .int .i64 (-100), .int .i64 100]) (by simp only [List.map_cons, List.map_nil, sym_num e0 ha.1 ha.2]; rfl) (sym_vr hg ek (by omega) (by omega)) hk
    exact yes_run (tab_ok ho) (.cons _ _ _ _ (sym_vr hg e0 ha.1 ha.2) .nil) run
  by_cases c : 0 ≤ k
  · exact main 0 100 ⟨c, hk2⟩ stop_run1
  · exact main (-100) (-1) ⟨hk1, by omega⟩ stop_run2
end Go.Proofs.YtnooolhcolkpiaaGreatDoorT

/- TopLevels: for every input the function answers true: a run of the second executor for each two numbers from 2 to 3. -/
import Derived.Test.YtkejdgfcgmediaaGreatDoorGt
import Derived.Test.YtkejdgfcgmediaaGreatDoorW
namespace Go.Proofs.YtkejdgfcgmediaaGreatDoorT
open Go Go.Proofs.YtkejdgfcgmediaaGreatDoorE Go.Proofs.YtkejdgfcgmediaaGreatDoorX Go.Proofs.YtkejdgfcgmediaaGreatDoorG
set_option linter.unusedVariables false
set_option maxRecDepth 1000000

noncomputable def lg2 : Gm := ⟨[(-9223372036854775808, 9223372036854775807), (-9223372036854775808, 9223372036854775807)], []⟩
noncomputable def lw (x y : Int) : List (List V × V) := [([.sym lg2 .i64 0 [1], .int .i64 2, .int .i64 3], .int .i64 x), ([.sym lg2 .i64 0 [0, 1], .int .i64 2, .int .i64 3], .int .i64 y)]
theorem levels_run22 : okR (run3 (tab (lw 2 2)) 600 q4 [.sym lg2 .i64 0 [1], .sym lg2 .i64 0 [0, 1]] .lf .e 0 0 0) = true := by kernel_rfl
theorem levels_run23 : okR (run3 (tab (lw 2 3)) 600 q4 [.sym lg2 .i64 0 [1], .sym lg2 .i64 0 [0, 1]] .lf .e 0 0 0) = true := by kernel_rfl
theorem levels_run32 : okR (run3 (tab (lw 3 2)) 600 q4 [.sym lg2 .i64 0 [1], .sym lg2 .i64 0 [0, 1]] .lf .e 0 0 0) = true := by kernel_rfl
theorem levels_run33 : okR (run3 (tab (lw 3 3)) 600 q4 [.sym lg2 .i64 0 [1], .sym lg2 .i64 0 [0, 1]] .lf .e 0 0 0) = true := by kernel_rfl
def lr (a b : Int) : Nat → Int
  | 0 => a
  | 1 => b
  | _ => 0
theorem lg2_in {a b : Int} (ha : -9223372036854775808 ≤ a ∧ a ≤ 9223372036854775807) (hb : -9223372036854775808 ≤ b ∧ b ≤ 9223372036854775807) : Inn (lr a b) lg2 := by
  refine ⟨fun i l h e => ?_, fun i j p hp => by cases hp⟩
  rcases i with _ | _ | i
  · cases e; exact ha
  · cases e; exact hb
  · simp [lg2] at e
theorem levels_law (a0 : Int) (w0 : (Lit.int .i64 a0).wf = true) (a1 : Int) (w1 : (Lit.int .i64 a1).wf = true) : Yes (compF Tryz.prog) 4 [.int .i64 a0, .int .i64 a1] Mem.empty 0 := by
  have ha := wf_i64 w0
  have hb := wf_i64 w1
  obtain ⟨x, hx1, hx2, _, hx⟩ := within_ex a0 2 3 (by omega) (by omega) (by omega)
  obtain ⟨y, hy1, hy2, _, hy⟩ := within_ex a1 2 3 (by omega) (by omega) (by omega)
  have e0 : (0 : Int) + dotL (lr a0 a1) [1] 0 = a0 := by simp [dotL, lr]
  have e1 : (0 : Int) + dotL (lr a0 a1) [0, 1] 0 = a1 := by simp [dotL, lr]
  have hg := lg2_in ha hb
  have ho : ∀ q ∈ lw x y, OrcOk (lr a0 a1) (compF Tryz.prog) 7 q := by
    intro q hq
    simp only [lw, List.mem_cons, List.mem_nil_iff, or_false] at hq
    rcases hq with rfl | rfl
    · exact orc_of (bs := [.int .i64 a0, .int .i64 2, .int .i64 3]) (by simp only [List.map_cons, List.map_nil, sym_num e0 ha.1 ha.2]; rfl) (.int _ _) hx
    · exact orc_of (bs := [.int .i64 a1, .int .i64 2, .int .i64 3]) (by simp only [List.map_cons, List.map_nil, sym_num e1 hb.1 hb.2]; rfl) (.int _ _) hy
  refine yes_run (tab_ok ho) (.cons _ _ _ _ (sym_vr hg e0 ha.1 ha.2) (.cons _ _ _ _ (sym_vr hg e1 hb.1 hb.2) .nil)) (n := 600) (f := q4) ?_
  have h1 : x = 2 ∨ x = 3 := by omega
  have h2 : y = 2 ∨ y = 3 := by omega
  rcases h1 with rfl | rfl <;> rcases h2 with rfl | rfl
  · exact levels_run22
  · exact levels_run23
  · exact levels_run32
  · exact levels_run33
end Go.Proofs.YtkejdgfcgmediaaGreatDoorT

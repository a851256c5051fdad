/- TopTypes: for every input the function answers true: runs of the second executor for each of the five kinds, whose number is unknown, below zero or not. -/
import Derived.Test.YtkejdgfcgmediaaGreatDoorGt
import Derived.Test.YtkejdgfcgmediaaGreatDoorW
namespace Go.Proofs.YtkejdgfcgmediaaGreatDoorT
open Go Go.Proofs.YtkejdgfcgmediaaGreatDoorE Go.Proofs.YtkejdgfcgmediaaGreatDoorX Go.Proofs.YtkejdgfcgmediaaGreatDoorG
set_option linter.unusedVariables false
set_option maxRecDepth 1000000

noncomputable def yg (l h : Int) : Gm := ⟨[(-9223372036854775808, 9223372036854775807), (-9223372036854775808, 9223372036854775807), (l, h)], []⟩
noncomputable def yw (l h c : Int) : List (List V × V) := [([.sym (yg l h) .i64 0 [0, 1], .int .i64 (-100), .int .i64 100], .sym (yg l h) .i64 0 [0, 0, 1]), ([.sym (yg l h) .i64 0 [1], .int .i64 0, .int .i64 4], .int .i64 c)]
theorem types_run0_0 : okR (run3 (tab (yw 0 100 0)) 600 q3 [.sym (yg 0 100) .i64 0 [1], .sym (yg 0 100) .i64 0 [0, 1]] .lf .e 0 0 0) = true := by kernel_rfl
theorem types_run0_1 : okR (run3 (tab (yw (-100) (-1) 0)) 600 q3 [.sym (yg (-100) (-1)) .i64 0 [1], .sym (yg (-100) (-1)) .i64 0 [0, 1]] .lf .e 0 0 0) = true := by kernel_rfl
theorem types_run1_2 : okR (run3 (tab (yw 0 100 1)) 600 q3 [.sym (yg 0 100) .i64 0 [1], .sym (yg 0 100) .i64 0 [0, 1]] .lf .e 0 0 0) = true := by kernel_rfl
theorem types_run1_3 : okR (run3 (tab (yw (-100) (-1) 1)) 600 q3 [.sym (yg (-100) (-1)) .i64 0 [1], .sym (yg (-100) (-1)) .i64 0 [0, 1]] .lf .e 0 0 0) = true := by kernel_rfl
theorem types_run2_4 : okR (run3 (tab (yw 0 1 2)) 600 q3 [.sym (yg 0 1) .i64 0 [1], .sym (yg 0 1) .i64 0 [0, 1]] .lf .e 0 0 0) = true := by kernel_rfl
theorem types_run2_5 : okR (run3 (tab (yw 2 2 2)) 600 q3 [.sym (yg 2 2) .i64 0 [1], .sym (yg 2 2) .i64 0 [0, 1]] .lf .e 0 0 0) = true := by kernel_rfl
theorem types_run2_6 : okR (run3 (tab (yw 3 100 2)) 600 q3 [.sym (yg 3 100) .i64 0 [1], .sym (yg 3 100) .i64 0 [0, 1]] .lf .e 0 0 0) = true := by kernel_rfl
theorem types_run2_7 : okR (run3 (tab (yw (-100) (-1) 2)) 600 q3 [.sym (yg (-100) (-1)) .i64 0 [1], .sym (yg (-100) (-1)) .i64 0 [0, 1]] .lf .e 0 0 0) = true := by kernel_rfl
theorem types_run3_8 : okR (run3 (tab (yw 0 100 3)) 600 q3 [.sym (yg 0 100) .i64 0 [1], .sym (yg 0 100) .i64 0 [0, 1]] .lf .e 0 0 0) = true := by kernel_rfl
theorem types_run3_9 : okR (run3 (tab (yw (-100) (-1) 3)) 600 q3 [.sym (yg (-100) (-1)) .i64 0 [1], .sym (yg (-100) (-1)) .i64 0 [0, 1]] .lf .e 0 0 0) = true := by kernel_rfl
theorem types_run4_10 : okR (run3 (tab (yw 0 100 4)) 600 q3 [.sym (yg 0 100) .i64 0 [1], .sym (yg 0 100) .i64 0 [0, 1]] .lf .e 0 0 0) = true := by kernel_rfl
theorem types_run4_11 : okR (run3 (tab (yw (-100) (-1) 4)) 600 q3 [.sym (yg (-100) (-1)) .i64 0 [1], .sym (yg (-100) (-1)) .i64 0 [0, 1]] .lf .e 0 0 0) = true := by kernel_rfl
def yr (a b x : Int) : Nat → Int
  | 0 => a
  | 1 => b
  | 2 => x
  | _ => 0
theorem yg_in {a b x l h : Int} (ha : -9223372036854775808 ≤ a ∧ a ≤ 9223372036854775807) (hb : -9223372036854775808 ≤ b ∧ b ≤ 9223372036854775807) (hx : l ≤ x ∧ x ≤ h) : Inn (yr a b x) (yg l h) := by
  refine ⟨fun i l h e => ?_, fun i j p hp => by cases hp⟩
  rcases i with _ | _ | _ | i
  · cases e; exact ha
  · cases e; exact hb
  · cases e; exact hx
  · simp [yg] at e
theorem types_law (a0 : Int) (w0 : (Lit.int .i64 a0).wf = true) (a1 : Int) (w1 : (Lit.int .i64 a1).wf = true) : Yes (compF Tryz.prog) 3 [.int .i64 a0, .int .i64 a1] Mem.empty 0 := by
  have ha := wf_i64 w0
  have hb := wf_i64 w1
  obtain ⟨k, hk1, hk2, _, hk⟩ := within_ex a1 (-100) 100 (by omega) (by omega) (by omega)
  obtain ⟨c, hc1, hc2, _, hc⟩ := within_ex a0 0 4 (by omega) (by omega) (by omega)
  have e0 : (0 : Int) + dotL (yr a0 a1 k) [1] 0 = a0 := by simp [dotL, yr]
  have e1 : (0 : Int) + dotL (yr a0 a1 k) [0, 1] 0 = a1 := by simp [dotL, yr]
  have ek : (0 : Int) + dotL (yr a0 a1 k) [0, 0, 1] 0 = k := by simp [dotL, yr]
  have main : ∀ l h : Int, l ≤ k ∧ k ≤ h → okR (run3 (tab (yw l h c)) 600 q3 [.sym (yg l h) .i64 0 [1], .sym (yg l h) .i64 0 [0, 1]] .lf .e 0 0 0) = true → Yes (compF Tryz.prog) 3 [.int .i64 a0, .int .i64 a1] Mem.empty 0 := by
    intro l h hx run
    have hg := yg_in ha hb hx
    have ho : ∀ q ∈ yw l h c, OrcOk (yr a0 a1 k) (compF Tryz.prog) 7 q := by
      intro q hq
      simp only [yw, List.mem_cons, List.mem_nil_iff, or_false] at hq
      rcases hq with rfl | rfl
      · exact orc_of (bs := [.int .i64 a1, .int .i64 (-100), .int .i64 100]) (by simp only [List.map_cons, List.map_nil, sym_num e1 hb.1 hb.2]; rfl) (sym_vr hg ek (by omega) (by omega)) hk
      · exact orc_of (bs := [.int .i64 a0, .int .i64 0, .int .i64 4]) (by simp only [List.map_cons, List.map_nil, sym_num e0 ha.1 ha.2]; rfl) (.int _ _) hc
    exact yes_run (tab_ok ho) (.cons _ _ _ _ (sym_vr hg e0 ha.1 ha.2) (.cons _ _ _ _ (sym_vr hg e1 hb.1 hb.2) .nil)) run
  have h1 : c = 0 ∨ c = 1 ∨ c = 2 ∨ c = 3 ∨ c = 4 := by omega
  by_cases s : 0 ≤ k
  · rcases h1 with rfl | rfl | rfl | rfl | rfl
    · exact main 0 100 ⟨s, hk2⟩ types_run0_0
    · exact main 0 100 ⟨s, hk2⟩ types_run1_2
    · by_cases s1 : k ≤ 1
      · exact main 0 1 ⟨s, s1⟩ types_run2_4
      · by_cases s2 : k ≤ 2
        · exact main 2 2 ⟨by omega, s2⟩ types_run2_5
        · exact main 3 100 ⟨by omega, hk2⟩ types_run2_6
    · exact main 0 100 ⟨s, hk2⟩ types_run3_8
    · exact main 0 100 ⟨s, hk2⟩ types_run4_10
  · rcases h1 with rfl | rfl | rfl | rfl | rfl
    · exact main (-100) (-1) ⟨hk1, by omega⟩ types_run0_1
    · exact main (-100) (-1) ⟨hk1, by omega⟩ types_run1_3
    · exact main (-100) (-1) ⟨hk1, by omega⟩ types_run2_7
    · exact main (-100) (-1) ⟨hk1, by omega⟩ types_run3_9
    · exact main (-100) (-1) ⟨hk1, by omega⟩ types_run4_11
end Go.Proofs.YtkejdgfcgmediaaGreatDoorT

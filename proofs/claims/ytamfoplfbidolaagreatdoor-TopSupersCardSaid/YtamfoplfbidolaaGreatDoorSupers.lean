/- TopSupers: for every input the function answers true: two runs of the second executor whose numbers are unknown, one for each sign of the first. -/
import Derived.Test.YtamfoplfbidolaaGreatDoorGt
import Derived.Test.YtamfoplfbidolaaGreatDoorW
namespace Go.Proofs.YtamfoplfbidolaaGreatDoorT
open Go Go.Proofs.YtamfoplfbidolaaGreatDoorE Go.Proofs.YtamfoplfbidolaaGreatDoorX Go.Proofs.YtamfoplfbidolaaGreatDoorG
set_option linter.unusedVariables false
set_option maxRecDepth 1000000

noncomputable def ug (l h d e : Int) : Gm := ⟨[(-9223372036854775808, 9223372036854775807), (-9223372036854775808, 9223372036854775807), (l, h), (d, e)], []⟩
noncomputable def uw (l h d e : Int) : List Orc := [.v [.sym (ug l h d e) .i64 0 [1], .int .i64 (-100), .int .i64 100] (.sym (ug l h d e) .i64 0 [0, 0, 1]), .v [.sym (ug l h d e) .i64 0 [0, 1], .int .i64 (-100), .int .i64 100] (.sym (ug l h d e) .i64 0 [0, 0, 0, 1])]
theorem supers_run1 : run3 (tab (uw 0 100 0 100)) 600 q3 [.sym (ug 0 100 0 100) .i64 0 [1], .sym (ug 0 100 0 100) .i64 0 [0, 1]] .lf .e 0 0 0 okR = true := by kernel_rfl
theorem supers_run2 : run3 (tab (uw 0 100 (-100) (-1))) 600 q3 [.sym (ug 0 100 (-100) (-1)) .i64 0 [1], .sym (ug 0 100 (-100) (-1)) .i64 0 [0, 1]] .lf .e 0 0 0 okR = true := by kernel_rfl
theorem supers_run3 : run3 (tab (uw (-100) (-1) 0 100)) 600 q3 [.sym (ug (-100) (-1) 0 100) .i64 0 [1], .sym (ug (-100) (-1) 0 100) .i64 0 [0, 1]] .lf .e 0 0 0 okR = true := by kernel_rfl
theorem supers_run4 : run3 (tab (uw (-100) (-1) (-100) (-1))) 600 q3 [.sym (ug (-100) (-1) (-100) (-1)) .i64 0 [1], .sym (ug (-100) (-1) (-100) (-1)) .i64 0 [0, 1]] .lf .e 0 0 0 okR = true := by kernel_rfl
def ur (a b x y : Int) : Nat → Int
  | 0 => a
  | 1 => b
  | 2 => x
  | 3 => y
  | _ => 0
theorem ug_in {a b x y l h d e : Int} (ha : -9223372036854775808 ≤ a ∧ a ≤ 9223372036854775807) (hb : -9223372036854775808 ≤ b ∧ b ≤ 9223372036854775807) (hx : l ≤ x ∧ x ≤ h) (hy : d ≤ y ∧ y ≤ e) : Inn (ur a b x y) (ug l h d e) := by
  refine ⟨fun i l h e0 => ?_, fun i j p hp => by cases hp⟩
  rcases i with _ | _ | _ | _ | i
  · cases e0; exact ha
  · cases e0; exact hb
  · cases e0; exact hx
  · cases e0; exact hy
  · simp [ug] at e0
theorem supers_law (a0 : Int) (w0 : (Lit.int .i64 a0).wf = true) (a1 : Int) (w1 : (Lit.int .i64 a1).wf = true) : Yes (compF Tryz.prog) 3 [.int .i64 a0, .int .i64 a1] Mem.empty 0 := by
  have ha := wf_i64 w0
  have hb := wf_i64 w1
  obtain ⟨x, hx1, hx2, _, hx⟩ := within_ex a0 (-100) 100 (by omega) (by omega) (by omega)
  obtain ⟨y, hy1, hy2, _, hy⟩ := within_ex a1 (-100) 100 (by omega) (by omega) (by omega)
  have e0 : (0 : Int) + dotL (ur a0 a1 x y) [1] 0 = a0 := by simp [dotL, ur]
  have e1 : (0 : Int) + dotL (ur a0 a1 x y) [0, 1] 0 = a1 := by simp [dotL, ur]
  have e2 : (0 : Int) + dotL (ur a0 a1 x y) [0, 0, 1] 0 = x := by simp [dotL, ur]
  have e3 : (0 : Int) + dotL (ur a0 a1 x y) [0, 0, 0, 1] 0 = y := by simp [dotL, ur]
  have main : ∀ l h d e : Int, l ≤ x ∧ x ≤ h → d ≤ y ∧ y ≤ e → run3 (tab (uw l h d e)) 600 q3 [.sym (ug l h d e) .i64 0 [1], .sym (ug l h d e) .i64 0 [0, 1]] .lf .e 0 0 0 okR = true → Yes (compF Tryz.prog) 3 [.int .i64 a0, .int .i64 a1] Mem.empty 0 := by
    intro l h d e hl hd run
    have hg : Inn (ur a0 a1 x y) (ug l h d e) := ug_in ha hb hl hd
    have ho : ∀ q ∈ uw l h d e, OrcK (ur a0 a1 x y) (compF Tryz.prog) 7 q := by
      intro q hq
      simp only [uw, List.mem_cons, List.mem_nil_iff, or_false] at hq
      rcases hq with rfl | rfl
      · exact orc_of (bs := [.int .i64 a0, .int .i64 (-100), .int .i64 100]) (by simp only [List.map_cons, List.map_nil, sym_num e0 ha.1 ha.2]; rfl) (sym_vr hg e2 (by omega) (by omega)) hx
      · exact orc_of (bs := [.int .i64 a1, .int .i64 (-100), .int .i64 100]) (by simp only [List.map_cons, List.map_nil, sym_num e1 hb.1 hb.2]; rfl) (sym_vr hg e3 (by omega) (by omega)) hy
    exact yes_run (tab_ok ho) (.cons _ _ _ _ (sym_vr hg e0 ha.1 ha.2) (.cons _ _ _ _ (sym_vr hg e1 hb.1 hb.2) .nil)) run
  by_cases c : 0 ≤ x
  · by_cases c2 : 0 ≤ y
    · exact main 0 100 0 100 ⟨c, hx2⟩ ⟨c2, hy2⟩ supers_run1
    · exact main 0 100 (-100) (-1) ⟨c, hx2⟩ ⟨hy1, by omega⟩ supers_run2
  · by_cases c2 : 0 ≤ y
    · exact main (-100) (-1) 0 100 ⟨hx1, by omega⟩ ⟨c2, hy2⟩ supers_run3
    · exact main (-100) (-1) (-100) (-1) ⟨hx1, by omega⟩ ⟨hy1, by omega⟩ supers_run4
end Go.Proofs.YtamfoplfbidolaaGreatDoorT

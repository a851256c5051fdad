/- TopSleep: for every input the function answers true: a run of the second executor whose numbers are unknown, within their bounds. -/
import Derived.Test.YtnooolhcolkpiaaGreatDoorGt
import Derived.Test.YtnooolhcolkpiaaGreatDoorW
namespace Go.Proofs.YtnooolhcolkpiaaGreatDoorT
open Go Go.Proofs.YtnooolhcolkpiaaGreatDoorE Go.Proofs.YtnooolhcolkpiaaGreatDoorX Go.Proofs.YtnooolhcolkpiaaGreatDoorG
set_option linter.unusedVariables false
set_option maxRecDepth 100000

noncomputable def sg : Gm := ⟨[(-9223372036854775808, 9223372036854775807), (-9223372036854775808, 9223372036854775807), (0, 99), (0, 99)], []⟩
noncomputable def sw : List (List V × V) := [([.sym sg .i64 0 [1], .int .i64 1, .int .i64 100], .sym sg .i64 1 [0, 0, 1, 1]), ([.sym sg .i64 0 [0, 1], .int .i64 0, .sym sg .i64 0 [0, 0, 1, 1]], .sym sg .i64 0 [0, 0, 1])]
theorem sleep_run : okR (run3 (tab sw) 300 q3 [.sym sg .i64 0 [1], .sym sg .i64 0 [0, 1]] .lf .e 0 0 0) = true := by kernel_rfl
def sr (a b x y : Int) : Nat → Int
  | 0 => a
  | 1 => b
  | 2 => x
  | 3 => y
  | _ => 0
theorem sg_in {a b x y : Int} (ha : -9223372036854775808 ≤ a ∧ a ≤ 9223372036854775807) (hb : -9223372036854775808 ≤ b ∧ b ≤ 9223372036854775807) (hx : 0 ≤ x ∧ x ≤ 99) (hy : 0 ≤ y ∧ y ≤ 99) : Inn (sr a b x y) sg := by
  refine ⟨fun i l h e => ?_, fun i j p hp => by cases hp⟩
  rcases i with _ | _ | _ | _ | i
  · cases e; exact ha
  · cases e; exact hb
  · cases e; exact hx
  · cases e; exact hy
  · simp [sg] at e
theorem sleep_law (a0 : Int) (w0 : (Lit.int .i64 a0).wf = true) (a1 : Int) (w1 : (Lit.int .i64 a1).wf = true) : Yes (compF Tryz.prog) 3 [.int .i64 a0, .int .i64 a1] Mem.empty 0 := by
  have ha := wf_i64 w0
  have hb := wf_i64 w1
  obtain ⟨k, hk1, hk2, _, hk⟩ := within_ex a0 1 100 (by omega) (by omega) (by omega)
  obtain ⟨x, hx1, hx2, _, hx⟩ := within_ex a1 0 (k - 1) (by omega) (by omega) (by omega)
  have hg := sg_in ha hb (x := x) (y := k - 1 - x) ⟨hx1, by omega⟩ ⟨by omega, by omega⟩
  have e0 : (0 : Int) + dotL (sr a0 a1 x (k - 1 - x)) [1] 0 = a0 := by simp [dotL, sr]
  have e1 : (0 : Int) + dotL (sr a0 a1 x (k - 1 - x)) [0, 1] 0 = a1 := by simp [dotL, sr]
  have ek : (1 : Int) + dotL (sr a0 a1 x (k - 1 - x)) [0, 0, 1, 1] 0 = k := by simp [dotL, sr]; omega
  have ek1 : (0 : Int) + dotL (sr a0 a1 x (k - 1 - x)) [0, 0, 1, 1] 0 = k - 1 := by simp [dotL, sr]; omega
  have ex : (0 : Int) + dotL (sr a0 a1 x (k - 1 - x)) [0, 0, 1] 0 = x := by simp [dotL, sr]
  have ho : ∀ q ∈ sw, OrcOk (sr a0 a1 x (k - 1 - x)) (compF Tryz.prog) 7 q := by
    intro q hq
    simp only [sw, List.mem_cons, List.mem_nil_iff, or_false] at hq
    rcases hq with rfl | rfl
    · exact orc_of (bs := [.int .i64 a0, .int .i64 1, .int .i64 100]) (by simp only [List.map_cons, List.map_nil, sym_num e0 ha.1 ha.2]; rfl) (sym_vr hg ek (by omega) (by omega)) hk
    · exact orc_of (bs := [.int .i64 a1, .int .i64 0, .int .i64 (k - 1)]) (by simp only [List.map_cons, List.map_nil, sym_num e1 hb.1 hb.2, sym_num ek1 (by omega) (by omega)]; rfl) (sym_vr hg ex (by omega) (by omega)) hx
  exact yes_run (tab_ok ho) (.cons _ _ _ _ (sym_vr hg e0 ha.1 ha.2) (.cons _ _ _ _ (sym_vr hg e1 hb.1 hb.2) .nil)) sleep_run
end Go.Proofs.YtnooolhcolkpiaaGreatDoorT

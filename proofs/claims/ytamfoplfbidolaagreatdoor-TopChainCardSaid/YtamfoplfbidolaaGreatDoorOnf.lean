/- As One, with whatever fuel. -/
import Derived.Test.YtamfoplfbidolaaGreatDoorOne
namespace Go.Proofs.YtamfoplfbidolaaGreatDoorT
open Go Go.Proofs.YtamfoplfbidolaaGreatDoorE Go.Proofs.YtamfoplfbidolaaGreatDoorX Go.Proofs.YtamfoplfbidolaaGreatDoorG
set_option linter.unusedVariables false
set_option maxRecDepth 100000

theorem one_lawF {fu f : Nat} {p : Pa} (hp : p.nat = f) (lo hi : Int) (h1 : -100000 ≤ lo) (h2 : lo ≤ hi) (h3 : hi ≤ 2000000000) (run : ∀ k, lo ≤ k → k ≤ hi → run3 (tab (tw lo hi k)) fu p [.sym tg .i64 0 [1]] .lf .e 0 0 0 okR = true)
    (a0 : Int) (w0 : (Lit.int .i64 a0).wf = true) : Yes (compF Tryz.prog) f [.int .i64 a0] Mem.empty 0 := by
  have ha := wf_i64 w0
  obtain ⟨k, hk1, hk2, _, hk⟩ := within_ex a0 lo hi h1 h2 h3
  have e0 : (0 : Int) + dotL (tr a0) [1] 0 = a0 := by simp [dotL, tr]
  have hg := tg_in ha
  have ho : ∀ q ∈ tw lo hi k, OrcK (tr a0) (compF Tryz.prog) 7 q := by
    intro q hq
    simp only [tw, List.mem_cons, List.mem_nil_iff, or_false] at hq
    subst hq
    exact orc_of (bs := [.int .i64 a0, .int .i64 lo, .int .i64 hi]) (by simp only [List.map_cons, List.map_nil, sym_num e0 ha.1 ha.2]; rfl) (.int _ _) hk
  subst hp
  exact yes_run (tab_ok ho) (.cons _ _ _ _ (sym_vr hg e0 ha.1 ha.2) .nil) (run k hk1 hk2)
end Go.Proofs.YtamfoplfbidolaaGreatDoorT

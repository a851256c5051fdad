/- TopInputs: for every slice the function answers true: runs of the second executor, one for each length up to 6, and one for all lengths from 7 on, of which the first six elements are known to be there. -/
import Derived.Test.YtnoclbkoklknnaaGreatDoorGt
import Derived.Test.YtnoclbkoklknnaaGreatDoorSm
namespace Go.Proofs.YtnoclbkoklknnaaGreatDoorT
open Go Go.Proofs.YtnoclbkoklknnaaGreatDoorE Go.Proofs.YtnoclbkoklknnaaGreatDoorX Go.Proofs.YtnoclbkoklknnaaGreatDoorG
set_option linter.unusedVariables false
set_option maxRecDepth 1000000

noncomputable def ig (lo hi : Int) : Gm := ⟨[(lo, hi), (-9223372036854775808, 9223372036854775807), (-9223372036854775808, 9223372036854775807), (-9223372036854775808, 9223372036854775807), (-9223372036854775808, 9223372036854775807), (-9223372036854775808, 9223372036854775807), (-9223372036854775808, 9223372036854775807), (-1073741823, 1073741823), (-1073741823, 1073741823), (-1073741823, 1073741823), (-1073741823, 1073741823), (-1073741823, 1073741823), (-1073741823, 1073741823)], []⟩
noncomputable def ie (g : Gm) (i : Nat) : V := .sym g .i64 0 (unitL i)
noncomputable def iw (g : Gm) : List Orc := [.v [ie g 1] (ie g 7), .v [ie g 2] (ie g 8), .v [ie g 3] (ie g 9), .v [ie g 4] (ie g 10), .v [ie g 5] (ie g 11), .v [ie g 6] (ie g 12)]
noncomputable def il (g : Gm) (k : Nat) : List V := [ie g 1, ie g 2, ie g 3, ie g 4, ie g 5, ie g 6].take k
noncomputable def im (g : Gm) (k : Nat) : Tm := .nd .lf (some (.fr (Rp.ofList 40 k (il g k)))) .lf
noncomputable def is (g : Gm) : V := .sln .e 0 g 0 [1]
theorem inputs_nil0 : run3 (tab [] []) 600 q4 [.nils] .lf .e 0 0 0 okR = true := by kernel_rfl
theorem inputs_nil1 : run3 (tab [] []) 600 q4 [.nils] .lf (.o .e) 0 0 0 okR = true := by kernel_rfl
theorem inputs_emp0 : run3 (tab [] (iw (ig 0 0))) 600 q4 [is (ig 0 0)] .lf .e 0 0 0 okR = true := by kernel_rfl
theorem inputs_emp1 : run3 (tab [] (iw (ig 0 0))) 600 q4 [is (ig 0 0)] .lf (.o .e) 0 0 0 okR = true := by kernel_rfl
theorem inputs_run1 : run3 (tab [] (iw (ig 1 1))) 600 q4 [is (ig 1 1)] (im (ig 1 1) 1) (.o .e) 0 0 0 okR = true := by kernel_rfl
theorem inputs_run2 : run3 (tab [] (iw (ig 2 2))) 600 q4 [is (ig 2 2)] (im (ig 2 2) 2) (.o .e) 0 0 0 okR = true := by kernel_rfl
theorem inputs_run3 : run3 (tab [] (iw (ig 3 3))) 600 q4 [is (ig 3 3)] (im (ig 3 3) 3) (.o .e) 0 0 0 okR = true := by kernel_rfl
theorem inputs_run4 : run3 (tab [] (iw (ig 4 4))) 600 q4 [is (ig 4 4)] (im (ig 4 4) 4) (.o .e) 0 0 0 okR = true := by kernel_rfl
theorem inputs_run5 : run3 (tab [] (iw (ig 5 5))) 600 q4 [is (ig 5 5)] (im (ig 5 5) 5) (.o .e) 0 0 0 okR = true := by kernel_rfl
theorem inputs_run6 : run3 (tab [] (iw (ig 6 6))) 600 q4 [is (ig 6 6)] (im (ig 6 6) 6) (.o .e) 0 0 0 okR = true := by kernel_rfl
theorem inputs_run7 : run3 (tab [] (iw (ig 7 17592186044416))) 600 q4 [is (ig 7 17592186044416)] (im (ig 7 17592186044416) 6) (.o .e) 0 0 0 okR = true := by kernel_rfl
def ir (n : Int) (x s : Nat → Int) : Nat → Int
  | 0 => n
  | i + 1 => if i < 6 then x i else s (i - 6)
theorem dot_unit (ρ : Nat → Int) : ∀ (i j : Nat), dotL ρ (unitL i) j = ρ (i + j)
  | 0, j => by simp [unitL, dotL]
  | i + 1, j => by
    simp only [unitL, dotL, dot_unit ρ i (j + 1)]
    rw [show i + (j + 1) = i + 1 + j by omega]; omega
theorem ig_in {n lo hi : Int} {x s : Nat → Int} (hn : lo ≤ n ∧ n ≤ hi) (hx : ∀ i, -9223372036854775808 ≤ x i ∧ x i ≤ 9223372036854775807) (hs : ∀ i, -1073741823 ≤ s i ∧ s i ≤ 1073741823) : Inn (ir n x s) (ig lo hi) := by
  refine ⟨fun i l h e => ?_, fun i j p hp => by cases hp⟩
  rcases i with _ | _ | _ | _ | _ | _ | _ | _ | _ | _ | _ | _ | _ | i
  · cases e; exact hn
  · cases e; exact hx 0
  · cases e; exact hx 1
  · cases e; exact hx 2
  · cases e; exact hx 3
  · cases e; exact hx 4
  · cases e; exact hx 5
  · cases e; exact hs 0
  · cases e; exact hs 1
  · cases e; exact hs 2
  · cases e; exact hs 3
  · cases e; exact hs 4
  · cases e; exact hs 5
  · simp [ig] at e
theorem ie_vr {n lo hi : Int} {x s : Nat → Int} (hg : Inn (ir n x s) (ig lo hi)) {i : Nat} {a : Int} (e : ir n x s i = a) (h1 : -9223372036854775808 ≤ a) (h2 : a ≤ 9223372036854775807) : VR (ir n x s) (ie (ig lo hi) i) (.int .i64 a) := by
  refine sym_vr hg ?_ h1 h2
  rw [dot_unit, Nat.add_zero, e]; omega
theorem ie_num {n lo hi : Int} {x s : Nat → Int} {i : Nat} {a : Int} (e : ir n x s i = a) (h1 : -9223372036854775808 ≤ a) (h2 : a ≤ 9223372036854775807) : numOf (ir n x s) (ie (ig lo hi) i) = .int .i64 a := by
  refine sym_num ?_ h1 h2
  rw [dot_unit, Nat.add_zero, e]; omega
theorem inputs_law (l : List Int) (v : AV) (y : l.length * 8 ≤ 140737488351232) (q : ∀ x ∈ l, (Lit.int .i64 x).wf = true) (h0 : Mem) (p : Nat) (hr : IRow .i64 v h0 p l) (hp : p ≤ 1) (hb : ∀ b o n c, v = .slc b o n c → b = 0) : Yes (compF Tryz.prog) 4 [v] h0 p := by
  obtain ⟨s, hs⟩ : ∃ s : Nat → Int, ∀ i, -1073741823 ≤ s i ∧ s i ≤ 1073741823 ∧ ∀ (n : Nat) (h : Mem) (nx lg : Nat), xF (compF Tryz.prog) (n + 20) 16 [.int .i64 (l.getD i 0)] h nx lg = some ⟨.int .i64 (s i), h, nx, 0, 0⟩ :=
    ⟨fun i => Classical.choose (small_ex (l.getD i 0)), fun i => Classical.choose_spec (small_ex (l.getD i 0))⟩
  have hx : ∀ i, -9223372036854775808 ≤ l.getD i 0 ∧ l.getD i 0 ≤ 9223372036854775807 := fun i => by
    rw [List.getD_eq_getElem?_getD]
    cases e : l[i]? with
    | none => simp
    | some a => exact wf_i64 (q a (List.mem_of_getElem? e))
  have hnil : ∀ w, (∀ q ∈ ([] : List Orc), OrcK w (compF Tryz.prog) 6 q) := fun w q hq => by cases hq
  have hnil2 : ∀ w, (∀ q ∈ ([] : List Orc), OrcK w (compF Tryz.prog) 16 q) := fun w q hq => by cases hq
  have h01 : p = 0 ∨ p = 1 := by omega
  have hm0 : ∀ (w : Nat → Int) (nx : Pa), MR w .lf nx h0 := fun w nx => ⟨fun p q h => by rw [Tp.get_lf] at h; cases h⟩
  rcases hr with ⟨rfl, rfl⟩ | ⟨b, c, rfl, hcells⟩
  · rcases h01 with rfl | rfl
    · exact yes_at (ρ := fun _ => 0) (nx := .e) (tab_ok (hnil _) (hnil2 _)) (hm0 _ _) (.cons _ _ _ _ .nils .nil) inputs_nil0
    · exact yes_at (ρ := fun _ => 0) (nx := .o .e) (tab_ok (hnil _) (hnil2 _)) (hm0 _ _) (.cons _ _ _ _ .nils .nil) inputs_nil1
  · have hb0 := hb _ _ _ _ rfl
    subst hb0
    have ho : ∀ lo hi : Int, lo ≤ (l.length : Int) ∧ (l.length : Int) ≤ hi → Inn (ir l.length (fun i => l.getD i 0) s) (ig lo hi) ∧ ∀ q ∈ iw (ig lo hi), OrcK (ir l.length (fun i => l.getD i 0) s) (compF Tryz.prog) 16 q := fun lo hi hl => by
      have hg : Inn (ir l.length (fun i => l.getD i 0) s) (ig lo hi) := ig_in hl hx (fun i => ⟨(hs i).1, (hs i).2.1⟩)
      refine ⟨hg, fun q hq => ?_⟩
      have one : ∀ i j k, ir l.length (fun i => l.getD i 0) s i = l.getD k 0 → ir l.length (fun i => l.getD i 0) s j = s k → OrcK (ir l.length (fun i => l.getD i 0) s) (compF Tryz.prog) 16 (.v [ie (ig lo hi) i] (ie (ig lo hi) j)) := fun i j k e1 e2 =>
        orc_of (bs := [.int .i64 (l.getD k 0)]) (by simp only [List.map_cons, List.map_nil, ie_num e1 (hx k).1 (hx k).2]) (ie_vr hg e2 (by have := (hs k).1; omega) (by have := (hs k).2.1; omega)) (hs k).2.2
      simp only [iw, List.mem_cons, List.mem_nil_iff, or_false] at hq
      rcases hq with rfl | rfl | rfl | rfl | rfl | rfl
      · exact one 1 7 0 rfl rfl
      · exact one 2 8 1 rfl rfl
      · exact one 3 9 2 rfl rfl
      · exact one 4 10 3 rfl rfl
      · exact one 5 11 4 rfl rfl
      · exact one 6 12 5 rfl rfl
    have hv : ∀ lo hi : Int, Inn (ir l.length (fun i => l.getD i 0) s) (ig lo hi) → VRs (ir l.length (fun i => l.getD i 0) s) [is (ig lo hi)] [.slc 0 0 l.length c] := fun lo hi hg => by
      refine .cons _ _ _ _ ?_ .nil
      refine .sln .e 0 _ _ _ _ _ hg ?_
      rw [show (0 : Int) + dotL (ir l.length (fun i => l.getD i 0) s) [1] 0 = l.length by simp [dotL, ir], IntKind.wrap_i64]
      omega
    by_cases h0l : l = []
    · subst h0l
      obtain ⟨hg, hq⟩ := ho 0 0 ⟨by simp, by simp⟩
      rcases h01 with rfl | rfl
      · exact yes_at (nx := .e) (tab_ok (hnil _) hq) (hm0 _ _) (hv _ _ hg) inputs_emp0
      · exact yes_at (nx := .o .e) (tab_ok (hnil _) hq) (hm0 _ _) (hv _ _ hg) inputs_emp1
    · obtain ⟨hlt, K, hK, hc⟩ := hcells h0l
      have hp1 : p = 1 := by omega
      subst hp1
      have hlen : 0 < l.length := List.length_pos_iff.2 h0l
      have mem : ∀ (lo hi : Int) (k : Nat), Inn (ir l.length (fun i => l.getD i 0) s) (ig lo hi) → k ≤ 6 → k ≤ l.length → MR (ir l.length (fun i => l.getD i 0) s) (im (ig lo hi) k) (.o .e) h0 := fun lo hi k hg hk hkl => by
        refine ⟨fun p q h => ?_⟩
        have hpq : p = .e ∧ q = .fr (Rp.ofList 40 k (il (ig lo hi) k)) := by
          cases p with
          | e => cases h; exact ⟨rfl, rfl⟩
          | o p => rw [show Tp.get (.o p) (im (ig lo hi) k) = Tp.get p .lf from rfl, Tp.get_lf] at h; cases h
          | i p => rw [show Tp.get (.i p) (im (ig lo hi) k) = Tp.get p .lf from rfl, Tp.get_lf] at h; cases h
        obtain ⟨rfl, rfl⟩ := hpq
        refine ⟨Nat.zero_lt_one, K, hK, .fr _ _ fun o u e => ?_⟩
        have hll : (il (ig lo hi) k).length = k := by unfold il; rw [List.length_take]; simp only [List.length_cons, List.length_nil]; omega
        obtain ⟨r1, r2⟩ := ofList40 hll (by omega)
        rw [Rp.get_ok r1, r2] at e
        have hok : o < k := by
          have := (List.getElem?_eq_some_iff.1 e).1
          omega
        have hol : o < l.length := by omega
        refine ⟨_, hc o hol, ?_⟩
        have hgd : l.getD o 0 = l[o] := by rw [List.getD_eq_getElem?_getD, List.getElem?_eq_getElem hol]; rfl
        rw [← hgd]
        have fin : u = ie (ig lo hi) (o + 1) → VR (ir l.length (fun i => l.getD i 0) s) u (.int .i64 (l.getD o 0)) := fun hu => by
          rw [hu]
          refine ie_vr hg ?_ (hx o).1 (hx o).2
          show (if o < 6 then l.getD o 0 else s (o - 6)) = _
          rw [if_pos (by omega)]
        refine fin ?_
        unfold il at e
        rw [List.getElem?_take, if_pos hok] at e
        rcases o with _ | _ | _ | _ | _ | _ | o
        · cases e; rfl
        · cases e; rfl
        · cases e; rfl
        · cases e; rfl
        · cases e; rfl
        · cases e; rfl
        · omega
      have go : ∀ (lo hi : Int) (k : Nat), lo ≤ (l.length : Int) ∧ (l.length : Int) ≤ hi → k ≤ 6 → k ≤ l.length → run3 (tab [] (iw (ig lo hi))) 600 q4 [is (ig lo hi)] (im (ig lo hi) k) (.o .e) 0 0 0 okR = true → Yes (compF Tryz.prog) 4 [.slc 0 0 l.length c] h0 1 := fun lo hi k hl hk hkl run => by
        obtain ⟨hg, hq⟩ := ho lo hi hl
        exact yes_at (nx := .o .e) (tab_ok (hnil _) hq) (mem lo hi k hg hk hkl) (hv _ _ hg) run
      by_cases h7 : 7 ≤ l.length
      · exact go 7 17592186044416 6 ⟨by omega, by omega⟩ (by omega) (by omega) inputs_run7
      · have hk : l.length = 1 ∨ l.length = 2 ∨ l.length = 3 ∨ l.length = 4 ∨ l.length = 5 ∨ l.length = 6 := by omega
        rcases hk with hk | hk | hk | hk | hk | hk
        · exact go 1 1 1 ⟨by omega, by omega⟩ (by omega) (by omega) inputs_run1
        · exact go 2 2 2 ⟨by omega, by omega⟩ (by omega) (by omega) inputs_run2
        · exact go 3 3 3 ⟨by omega, by omega⟩ (by omega) (by omega) inputs_run3
        · exact go 4 4 4 ⟨by omega, by omega⟩ (by omega) (by omega) inputs_run4
        · exact go 5 5 5 ⟨by omega, by omega⟩ (by omega) (by omega) inputs_run5
        · exact go 6 6 6 ⟨by omega, by omega⟩ (by omega) (by omega) inputs_run6
end Go.Proofs.YtnoclbkoklknnaaGreatDoorT

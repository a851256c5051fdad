/- Code: methods; instructions are fetched. -/
import Derived.Test.YtlbjdkhpabpmiaaUn
namespace Go.Proofs.YtlbjdkhpabpmiaaT
open Go Go.Proofs.YtlbjdkhpabpmiaaE Go.Proofs.YtlbjdkhpabpmiaaB
set_option linter.unusedSimpArgs false
set_option linter.unusedVariables false
attribute [local congr] Post_cg PostL_cg condP_cg
attribute [local simp ↓] P_skip P_exit P_ret P_seq P_cond P_blk P_reg P_draw P_nil P_cons op_len Post.some Post_bind Post_ret Post_draw PostL_nil PostL_cons op_islc step_none step_t step_f step_nt step_nf op_load op_store op_slice op_app
attribute [local simp] condP_t condP_f dum_ab stepR want_none want_some opRun ev_t ev_c put_none put_some resAll res_tmp res_cell oneOf minI maxI min2A max2A mn2 mx2 mx3 rdBlk wrBlk newBlk partA abin ibin isShift AV.cells AV.one lay sub fillA lenA toN allApart apartFrom Nat.testBit Mem.blk_set_same Mem.blk_set_ne Mem.set_set bit_zero bit_self lowBits_or lowBits_zero len_setT sl_same sl_ne len_frame sl_frame lenOp_slc lenOp_nils Post_fail ofOpt_some ofOpt_none eA_b eA_i eA_s eA_nn eA_np eA_pn eA_lnn eA_lnp eA_lpn eA_i2 eA_i3 blt_dec Nat.add_assoc keeps_refl keeps_at keeps_up new_one and_pow bit_hi lowBits_pow ble_dec fr_refl fr_at fr_up fr_p reps

theorem u8s_at {l : List Int} {i : Nat} (h : i < (u8s l).length) : (u8s l)[i] = [.int .u8 (l[i]'(by rw [u8s_len] at h; exact h))] := List.getElem_map (h := h) ..
structure M where
  a : Int
  t : Int
  lv : AV
  L : List (Int × Int)
  cv : AV
  c : List Int
def M.cs (m : M) : List AV := [.int .i64 m.a, .int .i64 m.t, m.lv, m.cv]
structure MR (m : M) (h : Mem) (nx : Nat) : Prop where
  l : BR m.lv h nx m.L
  c : RD 1 m.cv h nx (u8s m.c)
  ok : Ok8 m.c
  n : m.c.length ≤ big
theorem MR.keeps {m : M} {h h' : Mem} {nx nx' : Nat} (g : MR m h nx) (hn : nx ≤ nx') (e : ∀ b, b < nx → h'.blk b = h.blk b) : MR m h' nx' := ⟨g.l.keeps hn e, g.c.keeps hn e, g.ok, g.n⟩
theorem MR.lenC {m : M} {h : Mem} {nx : Nat} (g : MR m h nx) : lenOp m.cv = A.ret (.int .i64 m.c.length) := by rw [g.c.lenOp, u8s_len]
theorem MR.lenL {m : M} {h : Mem} {nx : Nat} (g : MR m h nx) : lenOp m.lv = A.ret (.int .i64 m.L.length) := g.l.lenOp
theorem MR.el {m : M} {h : Mem} {nx : Nat} (g : MR m h nx) {i : Nat} (hi : i < m.c.length) : ∃ b o, El m.cv (i : Int) 1 h nx [.int .u8 m.c[i]] b o := by
  obtain ⟨b, o, e⟩ := g.c.el (i := i) (by rw [u8s_len]; exact hi)
  rw [u8s_at] at e
  exact ⟨b, o, e⟩
theorem MR.one {m : M} {h : Mem} {nx : Nat} (g : MR m h nx) : m.cs.all AV.one = true := by
  simp only [M.cs, List.all_cons, g.l.r.one.2, g.c.one.2]
  rfl
theorem wr8 {x : Int} (h : 0 ≤ x ∧ x < 256) : IntKind.i64.wrap x = x := by rw [IntKind.wrap_i64]; omega
/-- What is fetched at a place; whether there is anything. -/
def okf (c : List Int) (pc : Int) : Bool := decide (0 ≤ pc) && decide (pc.tmod 2 = 0) && decide (pc < (c.length : Int) - 1)
def fop (c : List Int) (pc : Int) : Int := if okf c pc then c.getD pc.toNat 0 else 0
def far (c : List Int) (pc : Int) : Int := if okf c pc then c.getD (pc.toNat + 1) 0 else 0
/-- A variable is made. -/
theorem mkvar (h : Mem) (nx : Nat) (X : Blk) : ∃ H, h.set nx (some X) = H ∧ H.blk nx = some X ∧ ∀ q, q < nx → H.blk q = h.blk q := ⟨_, rfl, Mem.blk_set_same .., fun q hq => Mem.blk_set_ne _ _ _ _ (by omega)⟩
/-- A variable that holds a method. -/
theorem MR.box {m : M} {h : Mem} {nx : Nat} (g : MR m h nx) : ∃ H, h.set nx (some ⟨37, 4, true, false, m.cs⟩) = H ∧ H.blk nx = some ⟨37, 4, true, false, m.cs⟩ ∧ (∀ q, q < nx → H.blk q = h.blk q) ∧ MR m H (nx + 1) := by
  obtain ⟨H, e, b, k⟩ := mkvar h nx ⟨37, 4, true, false, m.cs⟩
  exact ⟨H, e, b, k, g.keeps (by omega) k⟩
theorem st2 {H : Mem} {n b : Nat} {t : TypeId} {sz : Nat} {gg : Bool} {x y : AV} (hb : H.blk b = some ⟨t, sz, true, gg, [x, y]⟩) (hn : b < n) (u v : AV) (ho : [u, v].all AV.one = true) : ∃ H', (∀ lg, stA 2 (.ptr b 0) (.agg [u, v]) H n lg = some ⟨.tup [], H', n, bit lg b, bit lg b⟩) ∧ H'.blk b = some ⟨t, sz, true, gg, [u, v]⟩ ∧ ∀ q, q ≠ b → H'.blk q = H.blk q :=
  ⟨_, st_at (n := 2) (o := 0) hb hn (.agg [u, v]) rfl ho (by simp), Mem.blk_set_same .., fun q hq => Mem.blk_set_ne _ _ _ _ hq⟩
theorem okf_no {c : List Int} {pc : Int} (h : okf c pc = false) : fop c pc = 0 ∧ far c pc = 0 := by unfold fop far; rw [h]; exact ⟨rfl, rfl⟩
theorem okf_at {c : List Int} {k : Nat} (hk : k + 1 < c.length) (h : okf c k = true) : fop c k = c[k] ∧ far c k = c[k + 1] := by
  unfold fop far; rw [h]
  exact ⟨by simp [List.getD, List.getElem?_eq_getElem (show k < c.length by omega)], by simp [List.getD, List.getElem?_eq_getElem hk]⟩
set_option maxHeartbeats 8000000 in
theorem take_nw {m : M} {h : Mem} {nx : Nat} (g : MR m h nx) (pc : Int) : NwC T 60 15 [.agg m.cs, .int .i64 pc] h nx fun r h' nx' => r = .tup [.agg [.int .i64 (fop m.c pc), .int .i64 (far m.c pc)], .bool (okf m.c pc)] := by
  intro lg hlg
  rw [xF_fr T15]
  obtain ⟨H, eH, bH, kH, gH⟩ := g.box
  obtain ⟨H2, eH2, bH2, kH2⟩ := mkvar H (nx + 1) ⟨47, 2, true, false, [.int .i64 0, .int .i64 0]⟩
  have g2 := gH.keeps (Nat.le_succ _) kH2
  have l1 := g.lenC
  have n1 := g.n
  have b2 := (kH2 nx (by omega)).trans bH
  have ld3 := fun lg => ld_at b2 (show nx < nx + 2 by omega) (o := 3) (v := m.cv) rfl lg
  have w0 := fun lg => ld_sub (n := 2) (o := 0) bH2 (show nx + 1 < nx + 2 by omega) (vs := [.int .i64 0, .int .i64 0]) rfl lg
  obtain ⟨H3, sH3, b3, k3⟩ := st2 bH2 (show nx + 1 < nx + 2 by omega) (.int .i64 0) (.int .i64 0) rfl
  have v3 := fun lg => ld_sub (n := 2) (o := 0) b3 (show nx + 1 < nx + 2 by omega) (vs := [.int .i64 0, .int .i64 0]) rfl lg
  have k3' : ∀ q, q < nx → H3.blk q = h.blk q := fun q hq => (k3 q (by omega)).trans ((kH2 q (by omega)).trans (kH q hq))
  have bz : bit lg nx = 0 := bit_up hlg
  have bz1 : bit lg (nx + 1) = 0 := bit_up (by omega)
  simp only [M.cs] at eH ⊢
  by_cases c1 : pc < 0
  · have ok : okf m.c pc = false := by unfold okf; rw [decide_eq_false (by omega : ¬ 0 ≤ pc)]; rfl
    obtain ⟨e1, e2⟩ := okf_no ok
    simp (maxSteps := 4000000) (maxDischargeDepth := 6) [F15, eH, eH2, sH3, b3, w0, c1, ok, e1, e2, bz, bz1]
    exact k3'
  · by_cases c2 : pc.tmod 2 = 0
    · by_cases c3 : pc < (m.c.length : Int) - 1
      · have ok : okf m.c pc = true := by unfold okf; rw [decide_eq_true (by omega : 0 ≤ pc), decide_eq_true c2, decide_eq_true c3]; rfl
        obtain ⟨k, rfl⟩ : ∃ i : Nat, pc = i := ⟨pc.toNat, by omega⟩
        have hk : k + 1 < m.c.length := by omega
        obtain ⟨e1, e2⟩ := okf_at hk ok
        have wl : IntKind.i64.wrap ((m.c.length : Int) - 1) = (m.c.length : Int) - 1 := by rw [IntKind.wrap_i64]; unfold big at n1; omega
        have wk : IntKind.i64.wrap ((k : Int) + 1) = (k : Int) + 1 := by rw [IntKind.wrap_i64]; unfold big at n1; omega
        obtain ⟨b0, o0, el0⟩ := g2.el (i := k) (by omega)
        obtain ⟨b1, o1, el1⟩ := g2.el hk
        have p0 := el0.pl
        have p1 : islcA 1 m.cv (.int .i64 ((k : Int) + 1)) = A.ret (.ptr b1 o1) := el1.pl
        have f0 := fun lg => el0.fst (v := .int .u8 m.c[k]) rfl lg
        have f1 := fun lg => el1.fst (v := .int .u8 m.c[k + 1]) rfl lg
        have w8a := wr8 (g.ok _ (List.getElem_mem (show k < m.c.length by omega)))
        have w8b := wr8 (g.ok _ (List.getElem_mem hk))
        rw [ok, e1, e2]
        have c1' : ¬ (k : Int) < 0 := c1
        have c3' : ¬ (m.c.length : Int) - 1 ≤ (k : Int) := by omega
        generalize m.c[k] = A at *
        generalize m.c[k + 1] = B at *
        obtain ⟨H4, sH4, b4, k4⟩ := st2 bH2 (show nx + 1 < nx + 2 by omega) (.int .i64 A) (.int .i64 B) rfl
        have v4 := fun lg => ld_sub (n := 2) (o := 0) b4 (show nx + 1 < nx + 2 by omega) (vs := [.int .i64 A, .int .i64 B]) rfl lg
        simp (maxSteps := 4000000) (maxDischargeDepth := 6) [F15, eH, eH2, sH4, b4, w0, c1', c2, c3', l1, wl, wk, p0, p1, f0, f1, w8a, w8b, bz, bz1, ld3]
        exact fun q hq => (k4 q (by omega)).trans ((kH2 q (by omega)).trans (kH q hq))
      · have ok : okf m.c pc = false := by unfold okf; rw [decide_eq_false c3, Bool.and_false]
        obtain ⟨e1, e2⟩ := okf_no ok
        have wl : IntKind.i64.wrap ((m.c.length : Int) - 1) = (m.c.length : Int) - 1 := by rw [IntKind.wrap_i64]; unfold big at n1; omega
        have c3' : (m.c.length : Int) - 1 ≤ pc := by omega
        simp (maxSteps := 4000000) (maxDischargeDepth := 6) [F15, eH, eH2, sH3, b3, w0, c1, c2, c3, c3', ok, e1, e2, l1, wl, ld3, bz, bz1]
        exact k3'
    · have ok : okf m.c pc = false := by unfold okf; rw [decide_eq_false c2, Bool.and_false]; rfl
      obtain ⟨e1, e2⟩ := okf_no ok
      have c2' : (pc.tmod 2 != 0) = true := bne_iff_ne.2 c2
      simp (maxSteps := 4000000) (maxDischargeDepth := 6) [F15, eH, eH2, sH3, b3, w0, c1, c2', ok, e1, e2, bz, bz1]
      exact k3'
end Go.Proofs.YtlbjdkhpabpmiaaT

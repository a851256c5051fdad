/- The engine, part 5: every operation but a call, run by the model. -/
import Derived.Test.YtamfoplfbidolaaGreatDoorE4
namespace Go.Proofs.YtamfoplfbidolaaGreatDoorE
open Go Go.RowKit
set_option linter.unusedVariables false
set_option linter.unusedSimpArgs false

theorem run_val {P : Program} {s : Sem Value} {w w' : World} {u : Value} (h : s.run P w = .ok u w') : (do pure (.value (← s)) : Sem Next).run P w = .ok (.value u) w' := by
  simp [h]
theorem run_unit {P : Program} {s : Sem Unit} {w w' : World} (h : s.run P w = .ok () w') : (do s; pure .skip : Sem Next).run P w = .ok .skip w' := by
  simp [h]

theorem VR.ptr_inv {m : Mp} {b o : Nat} {v : Value} (h : VR m (.ptr b o) v) : ∃ l, m b = some l ∧ l.mp = false ∧ v = .pointer (some ⟨l.blk, l.base + o, none⟩) := by simpa [VR] using h
theorem VR.agg_inv {m : Mp} {cs : List AV} {v : Value} (h : VR m (.agg cs) v) : ∃ ys : List Value, v = .agg ys.toArray ∧ VRs m cs ys := by simpa [VR] using h
theorem VR.tup_inv {m : Mp} {cs : List AV} {v : Value} (h : VR m (.tup cs) v) : ∃ ys : List Value, v = .tuple ys.toArray ∧ VRs m cs ys := by simpa [VR] using h
theorem VR.undef {m : Mp} : VR m (.tup []) undef := by simp only [VR]; exact ⟨[], rfl, VRs.nil⟩

theorem HR.at {B : Nat} {m : Mp} {h : Mem} {w : World} (r : HR B m h w) {b : Nat} {k : Blk} {l : Loc} (hb : h.blk b = some k) (hl : m b = some l) (hm : l.mp = false) : HeldC m B w k l := by
  obtain ⟨l', hl', hh⟩ := r.held b k hb
  rw [hl] at hl'; cases hl'; exact hh.c hm
theorem HR.atM {B : Nat} {m : Mp} {h : Mem} {w : World} (r : HR B m h w) {b : Nat} {k : Blk} {l : Loc} (hb : h.blk b = some k) (hl : m b = some l) (hm : l.mp = true) : HeldM m B w k l := by
  obtain ⟨l', hl', hh⟩ := r.held b k hb
  rw [hl] at hl'; cases hl'; exact hh.m hm

section
variable {P : Program} {B : Nat} {m : Mp} {h : Mem} {w : World} {ts : List AV} {a : Act} {n lg : Nat} {r : Rs AV} {o : Oper} {call : FuncId → List AV → A AV}

/-- A new block is made. -/
theorem Step.new (hr : HR B m h w) (hn : m n = none) (ty sz : Nat) (grow : Bool) {cs : List AV} {us rest : List Value} (hv : VRs m cs us) (t : TypeId) {s : Sem Next} {v : AV} {u : Value} {tc wr : Nat}
    (hs : s.run P w = .ok (.value u) (w.alloc (.cells (us ++ rest).toArray t))) (hu : VR (m.up n ⟨w.heap.size, 0, (us ++ rest).length, sz, false⟩) v u) :
    Step P B m n ⟨v, h.set n (some ⟨ty, sz, true, grow, cs⟩), n + 1, tc, wr⟩ s w :=
  ⟨_, u, _, .inl hs, Ext.up m n _ hn, hr.new hn ty sz grow hv t, hu, (Below.refl B w).alloc hr.base _, Nat.le_succ n⟩

theorem up_at (m : Mp) (n : Nat) (l : Loc) : (m.up n l) n = some l := by unfold Mp.up; rw [if_pos rfl]

theorem st_alloc (hr : HR B m h w) (hf : Fresh m n r.nx) {t : Nat} {sz : Nat} {z : List AV} (ho : o.op = .alloc t) (hz : zeroOf P t = some z)
    (e : opRun call ts (.alloc t sz z) h n lg = some r) : Step P B m n r (execOp a.eval o) w := by
  simp only [opRun] at e
  obtain ⟨r1, r2, e1, e2, rfl⟩ := A.bind_inv e
  unfold newBlk at e1; cases e1
  have e3 := A.ret_inv e2; subst e3
  obtain ⟨v, hv, hvv⟩ := run_zeroOf hz w
  refine Step.new hr (hf n (Nat.le_refl _) (Nat.lt_succ_self n)) t sz false (rest := []) (hvv m) t (u := .pointer (some ⟨w.heap.size, 0, none⟩)) ?_ ?_
  · unfold execOp; rw [ho]
    refine run_val ?_
    simp only [Instr.alloc, Sem.run_bind, hv, Result.andThen_ok, newVar, newRow, run_newObj, Sem.run_pure, List.append_nil, Array.toArray_toList]
    rfl
  · simp only [VR]; exact ⟨_, up_at .., rfl, by simp⟩

theorem st_box (hr : HR B m h w) (ht : VRs m ts a.tmps.toList) (hf : Fresh m n r.nx) {t sz : Nat} {x : Operand} {x' : X} (ho : o.op = .box t x) (hx : cX x = some x')
    (e : opRun call ts (.box t sz x') h n lg = some r) : Step P B m n r (execOp a.eval o) w := by
  simp only [opRun] at e
  obtain ⟨r1, r2, e1, e2, rfl⟩ := A.bind_inv e
  unfold newBlk at e1; cases e1
  have e3 := A.ret_inv e2; subst e3
  have hv := (cX_sound ht hx).cells
  refine Step.new hr (hf n (Nat.le_refl _) (Nat.lt_succ_self n)) t sz false (rest := []) hv t (u := .pointer (some ⟨w.heap.size, 0, none⟩)) ?_ ?_
  · unfold execOp; rw [ho]
    refine run_val ?_
    simp only [Instr.box, Sem.run_bind, Result.andThen_ok, newVar, newRow, run_newObj, Sem.run_pure, List.append_nil, Array.toArray_toList]
    rfl
  · simp only [VR]; exact ⟨_, up_at .., rfl, by simp⟩

theorem st_mov (hr : HR B m h w) (ht : VRs m ts a.tmps.toList) {x : Operand} {x' : X} (ho : o.op = .move x ∨ o.op = .assign x) (hx : cX x = some x')
    (e : opRun call ts (.mov x') h n lg = some r) : Step P B m n r (execOp a.eval o) w := by
  simp only [opRun] at e
  have e1 := A.ret_inv e; subst e1
  refine Step.same hr ?_ (cX_sound ht hx)
  unfold execOp; rcases ho with ho | ho <;> rw [ho] <;> rfl

theorem st_pick (hr : HR B m h w) (ht : VRs m ts a.tmps.toList) {c x y : Operand} {c' x' y' : X} (ho : o.op = .pick c x y) (hc : cX c = some c') (hx : cX x = some x') (hy : cX y = some y')
    (e : opRun call ts (.pick c' x' y') h n lg = some r) : Step P B m n r (execOp a.eval o) w := by
  simp only [opRun] at e
  have h1 := cX_sound ht hc
  generalize c'.ev ts = v at e h1
  cases v <;> first | (simp [A.fail] at e; done) | skip
  rename_i b
  cases b
  · have e1 := A.ret_inv e; subst e1
    refine Step.same hr ?_ (cX_sound ht hy)
    unfold execOp; rw [ho]; simp [h1.bool_inv, asBool]
  · have e1 := A.ret_inv e; subst e1
    refine Step.same hr ?_ (cX_sound ht hx)
    unfold execOp; rw [ho]; simp [h1.bool_inv, asBool]

theorem run_loadVar_of {t : TypeId} {q : Option Nat} (hq : nOf P t = some q) {k : Blk} {l : Loc} (hh : HeldC m B w k l) {off : Nat} {v : AV} (hv : partA k.cells off q = some v) :
    ∃ u, (loadVar t ⟨l.blk, l.base + off, none⟩).run P w = .ok u w ∧ VR m v u := by
  unfold loadVar
  have agg : ∀ d c, P.underlying t = some d → aggD d = true → szOf P t = some c → q = some c →
      ∃ u, (do if ← isAgg t then pure (.agg (← loadCells ⟨l.blk, l.base + off, none⟩ (← sizeOf t))) else load ⟨l.blk, l.base + off, none⟩ : Sem Value).run P w = .ok u w ∧ VR m v u := by
    intro d c hu hd hc hqc
    subst hqc
    obtain ⟨s, hs, rfl⟩ := Option.map_eq_some_iff.1 hv
    obtain ⟨vs, h1, h2, h3⟩ := hh.readsSub hs
    have := run_loadCells_list (P := P) w ⟨l.blk, l.base + off, none⟩ vs h3
    rw [h2] at this
    refine ⟨.agg vs.toArray, ?_, by simp only [VR]; exact ⟨vs, rfl, h1⟩⟩
    simp only [Sem.run_bind, run_yAgg hu hd, Result.andThen_ok, if_true, run_szOf hc, this, Sem.run_pure]
  unfold nOf at hq
  split at hq
  · rename_i fs hu
    obtain ⟨c, hc, rfl⟩ := Option.map_eq_some_iff.1 hq
    exact agg _ c hu rfl hc rfl
  · rename_i x y hu
    obtain ⟨c, hc, rfl⟩ := Option.map_eq_some_iff.1 hq
    exact agg _ c hu rfl hc rfl
  · rename_i d h1 h2 hu
    cases hq
    simp only [partA] at hv
    obtain ⟨us, hus, hc⟩ := hh.reads
    obtain ⟨u, hu', hr'⟩ := hus.get hv
    refine ⟨u, ?_, hr'⟩
    have hd : aggD d = false := by cases d <;> first | rfl | exact (h1 _ rfl).elim | exact (h2 _ _ rfl).elim
    simp only [Sem.run_bind, run_nAgg hu hd, Result.andThen_ok, Bool.false_eq_true, if_false, run_load, hc _ _ hu']
  · cases hq

theorem st_load (hr : HR B m h w) (ht : VRs m ts a.tmps.toList) {t : TypeId} {q : Option Nat} {x : Operand} {x' : X} (ho : o.op = .load t x) (hq : nOf P t = some q) (hx : cX x = some x')
    (e : opRun call ts (.load q x') h n lg = some r) : Step P B m n r (execOp a.eval o) w := by
  simp only [opRun] at e
  have h1 := cX_sound ht hx
  generalize x'.ev ts = v at e h1
  cases v <;> first | (simp [A.fail] at e; done) | skip
  rename_i b off
  obtain ⟨l, hl, hm, hp⟩ := h1.ptr_inv
  obtain ⟨r1, r2, e1, e2, rfl⟩ := A.bind_inv e
  obtain ⟨k, hk, rfl⟩ := rdBlk_inv e1
  obtain ⟨v, hv, rfl⟩ := A.ofOpt_inv e2
  obtain ⟨u, hu, hvu⟩ := run_loadVar_of hq (hr.at hk hl hm) hv
  refine Step.same hr ?_ hvu
  unfold execOp; rw [ho]
  refine run_val ?_
  simp only [Instr.loadAt, hp, Instr.sureAddr, Sem.run_bind, Sem.run_pure, Result.andThen_ok, hu]

/-- Cells of a block are written. -/
theorem Step.write (hr : HR B m h w) {b : Nat} {k : Blk} {l : Loc} (hb : h.blk b = some k) (ho : k.own = true) (hl : m b = some l) (hm : l.mp = false) {off : Nat} {xs : List AV} {vs : List Value} (hv : VRs m xs vs)
    (hfit : off + xs.length ≤ k.cells.length) (h1 : xs.all AV.one = true) :
    ∃ w', (storeCells ⟨l.blk, l.base + off, none⟩ vs).run P w = .ok () w' ∧ HR B m (h.set b (some { k with cells := lay k.cells off xs })) w' ∧ Below B w w' := by
  have hh := hr.at hb hl hm
  obtain ⟨⟨c, t, fz, g1, g2, g3, us, g4, g5⟩, fit, own, sz⟩ := hh
  have hfz := g3 ho; subst hfz
  have hvl := hv.length
  have hst := run_storeCells_at P l.blk (l.base + off) t vs 0 c w g1 (by omega) (VRs.one hv h1)
  refine ⟨_, hst, ?_, Below.setRow (Below.refl B w) (own ho) _⟩
  have := hr.write hb ho hl hm (o := off) hv hfit g1
  simpa [lay] using this

theorem lay_len {α : Type} (cs xs : List α) (o : Nat) (h : o + xs.length ≤ cs.length) : (lay cs o xs).length = cs.length := lay_length h

theorem st_store (hr : HR B m h w) (ht : VRs m ts a.tmps.toList) {t : TypeId} {q : Nat} {x y : Operand} {x' y' : X} (ho : o.op = .store t x y) (hq : szOf P t = some q) (hx : cX x = some x') (hy : cX y = some y')
    (e : opRun call ts (.store q x' y') h n lg = some r) : Step P B m n r (execOp a.eval o) w := by
  simp only [opRun] at e
  have h1 := cX_sound ht hx
  have h2 := (cX_sound ht hy).cells
  generalize x'.ev ts = v at e h1
  cases v <;> first | (simp [A.fail] at e; done) | skip
  rename_i b off
  obtain ⟨l, hl, hm, hp⟩ := h1.ptr_inv
  cases hlen : Nat.beq (y'.ev ts).cells.length q && (y'.ev ts).cells.all AV.one <;> simp only [hlen] at e
  · simp [A.fail] at e
  · rw [Bool.and_eq_true] at hlen
    have hlen1 := Nat.eq_of_beq_eq_true hlen.1
    obtain ⟨r1, r2, e1, e2, rfl⟩ := A.bind_inv e
    obtain ⟨k, hk, rfl⟩ := rdBlk_inv e1
    dsimp only at e2
    cases hle : Nat.ble (off + q) k.cells.length <;> simp only [hle] at e2
    · simp [A.fail] at e2
    · have hle' := Nat.le_of_ble_eq_true hle
      obtain ⟨r3, r4, e3, e4, rfl⟩ := A.bind_inv e2
      obtain ⟨k', hk', hown, hlen', rfl⟩ := wrBlk_inv e3
      have e5 := A.ret_inv e4; subst e5
      rw [hk] at hk'; cases hk'
      obtain ⟨w', hs, hr', hbw⟩ := Step.write (P := P) hr hk hown hl hm (off := off) h2 (by omega) hlen.2
      refine ⟨m, undef, w', .inr ⟨rfl, ?_⟩, Ext.refl m n, hr', VR.undef, hbw, Nat.le_refl n⟩
      unfold execOp; rw [ho]
      refine run_unit ?_
      have hvl := h2.length
      have hsz : (a.eval y).cells.size = q := by rw [← Array.length_toList, hvl]; exact hlen1
      simp only [Instr.storeAt, hp, Instr.sureAddr, Sem.run_bind, Sem.run_pure, Result.andThen_ok, storeVar, run_szOf hq, hsz]
      simp [hs]

theorem st_nilc (hr : HR B m h w) (ht : VRs m ts a.tmps.toList) {x : Operand} {x' : X} (ho : o.op = .nilCheck x) (hx : cX x = some x')
    (e : opRun call ts (.nilc x') h n lg = some r) : Step P B m n r (execOp a.eval o) w := by
  simp only [opRun] at e
  have h1 := cX_sound ht hx
  generalize x'.ev ts = v at e h1
  cases v <;> first | (simp [A.fail] at e; done) | skip
  · have e1 := A.ret_inv e; subst e1
    obtain ⟨l, hl, hm, hp⟩ := h1.ptr_inv
    refine Step.same hr (u := a.eval x) ?_ h1
    unfold execOp; rw [ho]; simp [hp]
  · have e1 := A.ret_inv e; subst e1
    have h2 := h1
    simp only [VR] at h2
    obtain ⟨y, hp, _⟩ := h2
    refine Step.same hr (u := a.eval x) ?_ h1
    unfold execOp; rw [ho]; simp [hp]
  · rename_i f fs cs
    dsimp only at e
    cases hmk : Nat.beq f 4294967295 with
    | true => rw [hmk] at e; simp [A.fail] at e
    | false =>
    rw [hmk] at e
    have e1 := A.ret_inv e; subst e1
    have h2 := h1
    simp only [VR] at h2
    obtain ⟨y, z, hp, _⟩ := h2
    rw [fnOf_f hmk] at hp
    refine Step.same hr (u := a.eval x) ?_ h1
    unfold execOp; rw [ho]; simp [hp]

theorem st_bin (hr : HR B m h w) (ht : VRs m ts a.tmps.toList) {op : BinOp} {t t' : TypeId} {x y : Operand} {x' y' : X} (ho : o.op = .binOp op t x y t') (hx : cX x = some x') (hy : cX y = some y')
    (e : opRun call ts (.bin op x' y') h n lg = some r) : Step P B m n r (execOp a.eval o) w := by
  simp only [opRun] at e
  obtain ⟨v, hv, rfl⟩ := A.ofOpt_inv e
  obtain ⟨z, hz, hvz, hg⟩ := abin_sound (P := P) hv (cX_sound ht hx) (cX_sound ht hy) t x y w
  refine Step.same hr ?_ hvz
  unfold execOp; rw [ho]
  refine run_val ?_
  simp only [Sem.run_bind, hg, Result.andThen_ok, hz]

end
end Go.Proofs.YtamfoplfbidolaaGreatDoorE

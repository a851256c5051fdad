/- The engine, part 6: the rest of the operations that make no memory. -/
import Derived.Test.YtamfoplfbidolaaGreatDoorE5
namespace Go.Proofs.YtamfoplfbidolaaGreatDoorE
open Go Go.RowKit
set_option linter.unusedVariables false
set_option linter.unusedSimpArgs false

theorem eqTop {P : Program} {k : EqK} {x y : AV} {u v : Value} {m : Mp} {r : Bool} {t : TypeId} (h : eqA k x y = some r) (hk : k ≠ .i ∧ k ≠ .s) (hg : P.eqGuardType P.depth t = false ∨ stK k = false) (hx : VR m x u) (hy : VR m y v) (X Y : Operand) (w : World) :
    (binOp .eql t u v = do pure (.bool (← Op.equal t u v))) ∧ (binOp .neq t u v = do pure (.bool (!(← Op.equal t u v)))) ∧ (∀ op, (eqGuard op t X Y u v).run P w = .ok () w) := by
  cases k with
  | i => exact absurd rfl hk.1
  | s => exact absurd rfl hk.2
  | b =>
    simp only [eqA] at h
    unfold eqB at h
    split at h <;> first | (cases h; done) | skip
    have e1 := hx.bool_inv; have e2 := hy.bool_inv; subst e1; subst e2
    exact ⟨rfl, rfl, fun op => by unfold eqGuard; cases op <;> rfl⟩
  | p =>
    simp only [eqA] at h
    unfold eqP at h
    split at h <;> first | (cases h; done) | skip
    · simp only [VR] at hx hy; subst hx; subst hy; exact ⟨rfl, rfl, fun op => by unfold eqGuard; cases op <;> rfl⟩
    · simp only [VR] at hx hy; obtain ⟨l, _, _, rfl⟩ := hy; subst hx; exact ⟨rfl, rfl, fun op => by unfold eqGuard; cases op <;> rfl⟩
    · simp only [VR] at hx hy; obtain ⟨l, _, _, rfl⟩ := hx; subst hy; exact ⟨rfl, rfl, fun op => by unfold eqGuard; cases op <;> rfl⟩
  | l =>
    simp only [eqA] at h
    unfold eqL at h
    split at h <;> first | (cases h; done) | skip
    · simp only [VR] at hx hy; subst hx; subst hy; exact ⟨rfl, rfl, fun op => by unfold eqGuard; cases op <;> rfl⟩
    · simp only [VR] at hx hy; obtain ⟨l, a, c, _, _, rfl, _⟩ := hy; subst hx; exact ⟨rfl, rfl, fun op => by unfold eqGuard; cases op <;> rfl⟩
    · simp only [VR] at hx hy; obtain ⟨l, a, c, _, _, rfl, _⟩ := hx; subst hy; exact ⟨rfl, rfl, fun op => by unfold eqGuard; cases op <;> rfl⟩
  | f =>
    simp only [eqA] at h
    unfold eqIf at h
    split at h <;> first | (cases h; done) | skip
    · simp only [VR] at hx hy; obtain ⟨z, rfl, _⟩ := hy; subst hx; exact ⟨rfl, rfl, fun op => by unfold eqGuard; cases op <;> rfl⟩
    · simp only [VR] at hx hy; obtain ⟨z, rfl, _⟩ := hx; subst hy; exact ⟨rfl, rfl, fun op => by unfold eqGuard; cases op <;> rfl⟩
  | st fs =>
    obtain ⟨xs, ys, rfl, rfl, h⟩ := eqA_st h
    obtain ⟨us, rfl, _⟩ := hx.agg_inv
    obtain ⟨vs, rfl, _⟩ := hy.agg_inv
    have hg' : P.eqGuardType P.depth t = false := by
      rcases hg with hg | hg
      · exact hg
      · cases hg
    refine ⟨rfl, rfl, fun op => ?_⟩
    unfold eqGuard
    cases op <;> simp [hg']

section
variable {P : Program} {B : Nat} {m : Mp} {h : Mem} {w : World} {ts : List AV} {a : Act} {n lg : Nat} {r : Rs AV} {o : Oper} {call : FuncId → List AV → A AV}

theorem st_eq (hr : HR B m h w) (ht : VRs m ts a.tmps.toList) {op : BinOp} {neg : Bool} {k : EqK} {t t' : TypeId} {x y : Operand} {x' y' : X} (ho : o.op = .binOp op t x y t')
    (hop : (op = .eql ∧ neg = false) ∨ (op = .neq ∧ neg = true)) (hk : eqkOf P 8 t = some k) (hki : k ≠ .i ∧ k ≠ .s) (hg : P.eqGuardType P.depth t = false ∨ stK k = false) (hx : cX x = some x') (hy : cX y = some y')
    (e : opRun call ts (.eq neg k x' y') h n lg = some r) : Step P B m n r (execOp a.eval o) w := by
  simp only [opRun] at e
  obtain ⟨v, hv, rfl⟩ := A.ofOpt_inv e
  obtain ⟨b, hb, rfl⟩ := Option.map_eq_some_iff.1 hv
  have e1 := cX_sound ht hx
  have e2 := cX_sound ht hy
  obtain ⟨p1, p2, p3⟩ := eqTop (P := P) (t := t) hb hki hg e1 e2 x y w
  have hrun := eq_run w 8 t k _ _ _ _ b hk hb e1 e2 Op.maxDepth (by unfold Op.maxDepth; omega)
  refine Step.same hr (u := .bool (neg != b)) ?_ (VR.bool _)
  unfold execOp; rw [ho]
  refine run_val ?_
  rcases hop with ⟨rfl, rfl⟩ | ⟨rfl, rfl⟩
  · rw [p1]
    simp only [Sem.run_bind, p3, Result.andThen_ok, Op.equal, hrun, Sem.run_pure, Bool.false_bne]
  · rw [p2]
    simp only [Sem.run_bind, p3, Result.andThen_ok, Op.equal, hrun, Sem.run_pure, Bool.true_bne]

theorem st_not (hr : HR B m h w) (ht : VRs m ts a.tmps.toList) {t : TypeId} {x : Operand} {x' : X} (ho : o.op = .unOp .not t x) (hx : cX x = some x')
    (e : opRun call ts (.not x') h n lg = some r) : Step P B m n r (execOp a.eval o) w := by
  simp only [opRun] at e
  have h1 := cX_sound ht hx
  generalize x'.ev ts = v at e h1
  cases v <;> first | (simp [A.fail] at e; done) | skip
  have e1 := A.ret_inv e; subst e1
  refine Step.same hr ?_ (VR.bool _)
  unfold execOp; rw [ho]
  refine run_val ?_
  rw [h1.bool_inv]
  rfl

theorem st_un (hr : HR B m h w) (ht : VRs m ts a.tmps.toList) {op : UnOp} {t : TypeId} {x : Operand} {x' : X} (ho : o.op = .unOp op t x) (hx : cX x = some x')
    (e : opRun call ts (.un op x') h n lg = some r) : Step P B m n r (execOp a.eval o) w := by
  simp only [opRun] at e
  have h1 := cX_sound ht hx
  generalize x'.ev ts = v at e h1
  cases op <;> cases v <;> first | (simp [A.fail] at e; done) | skip
  all_goals
    have e1 := A.ret_inv e; subst e1
    refine Step.same hr ?_ (VR.int _ _)
    unfold execOp; rw [ho]
    refine run_val ?_
    rw [h1.int_inv]
    rfl

theorem st_conv (hr : HR B m h w) (ht : VRs m ts a.tmps.toList) {s d : TypeId} {k : IntKind} {x : Operand} {x' : X} (ho : o.op = .convert s d x) (hs : isInt P s = true) (hd : P.underlying d = some (.int k)) (hx : cX x = some x')
    (e : opRun call ts (.conv k x') h n lg = some r) : Step P B m n r (execOp a.eval o) w := by
  simp only [opRun] at e
  have h1 := cX_sound ht hx
  generalize x'.ev ts = v at e h1
  cases v <;> first | (simp [A.fail] at e; done) | skip
  have e1 := A.ret_inv e; subst e1
  refine Step.same hr ?_ (VR.int _ _)
  unfold isInt at hs
  split at hs
  · rename_i q hu
    unfold execOp; rw [ho]
    refine run_val ?_
    rw [h1.int_inv]
    simp [convert, run_und hu, run_und hd, Conv.intToInt]
  · cases hs

theorem fieldOf_some {P : Program} {t f : Nat} {q : Field} (hq : fieldOf P t f = some q) : ∃ fs, P.underlying t = some (.struct fs) ∧ fs[f]? = some q := by
  unfold fieldOf at hq
  split at hq
  · exact ⟨_, ‹_›, hq⟩
  · cases hq

theorem st_faddr (hr : HR B m h w) (ht : VRs m ts a.tmps.toList) {s : TypeId} {f : Nat} {q : Field} {c : Nat} {x : Operand} {x' : X} (ho : o.op = .fieldAddr s x f) (hq : fieldOf P s f = some q) (hc : szOf P q.type = some (c + 1)) (hx : cX x = some x')
    (e : opRun call ts (.faddr q.offset x') h n lg = some r) : Step P B m n r (execOp a.eval o) w := by
  simp only [opRun] at e
  have h1 := cX_sound ht hx
  generalize x'.ev ts = v at e h1
  cases v <;> first | (simp [A.fail] at e; done) | skip
  have e1 := A.ret_inv e; subst e1
  obtain ⟨l, hl, hm, hp⟩ := h1.ptr_inv
  obtain ⟨fs, hu, hf⟩ := fieldOf_some hq
  rename_i b off
  refine Step.same hr (u := .pointer (some ⟨l.blk, l.base + (off + q.offset), none⟩)) ?_ (by simp only [VR]; exact ⟨l, hl, hm, rfl⟩)
  unfold execOp; rw [ho]
  refine run_val ?_
  simp [Instr.fieldAt, run_und hu, hf, hp, Instr.sureAddr, fieldPlace, run_szOf hc, add_lit, Nat.add_assoc]

theorem st_fld (hr : HR B m h w) (ht : VRs m ts a.tmps.toList) {t : TypeId} {f : Nat} {q : Field} {c : Option Nat} {x : Operand} {x' : X} (ho : o.op = .field t x f) (hq : fieldOf P t f = some q) (hc : nOf P q.type = some c) (hx : cX x = some x')
    (e : opRun call ts (.fld q.offset c x') h n lg = some r) : Step P B m n r (execOp a.eval o) w := by
  simp only [opRun] at e
  have h1 := cX_sound ht hx
  generalize x'.ev ts = v at e h1
  cases v <;> first | (simp [A.fail] at e; done) | skip
  obtain ⟨v, hv, rfl⟩ := A.ofOpt_inv e
  obtain ⟨ys, hp, hys⟩ := h1.agg_inv
  obtain ⟨fs, hu, hf⟩ := fieldOf_some hq
  obtain ⟨u, hu', hvu⟩ := partA_run hc hys hv w
  refine Step.same hr ?_ hvu
  unfold execOp; rw [ho]
  refine run_val ?_
  simp only [Instr.field, Sem.run_bind, run_und hu, Result.andThen_ok, hf, hp, asAgg, Sem.run_pure, hu']

theorem toN_some {lim : Nat} {i : Int} {j : Nat} (h : toN lim i = some j) : 0 ≤ i ∧ i < lim ∧ j = i.toNat := by
  unfold toN at h
  split at h
  · rename_i hb; cases h
    simp only [Bool.and_eq_true, decide_eq_true_eq] at hb
    exact ⟨hb.1, hb.2, rfl⟩
  · cases h
theorem toNle_some {lim : Nat} {i : Int} {j : Nat} (h : toNle lim i = some j) : 0 ≤ i ∧ i ≤ lim ∧ j = i.toNat := by
  unfold toNle at h
  split at h
  · rename_i hb; cases h
    simp only [Bool.and_eq_true, decide_eq_true_eq] at hb
    exact ⟨hb.1, hb.2, rfl⟩
  · cases h

theorem st_iarr (hr : HR B m h w) (ht : VRs m ts a.tmps.toList) {t el : TypeId} {len sz : Nat} {x i : Operand} {x' i' : X} (ho : o.op = .indexAddr t x i) (hu : P.underlying t = some (.array len el)) (hs : szOf P el = some sz) (hx : cX x = some x') (hi : cX i = some i')
    (e : opRun call ts (.iarr len sz x' i') h n lg = some r) : Step P B m n r (execOp a.eval o) w := by
  simp only [opRun] at e
  have h1 := cX_sound ht hx
  have h2 := cX_sound ht hi
  generalize x'.ev ts = v at e h1
  generalize i'.ev ts = v2 at e h2
  cases v <;> first | (simp [A.fail] at e; done) | skip
  cases v2 <;> first | (simp [A.fail] at e; done) | skip
  obtain ⟨v, hv, rfl⟩ := A.ofOpt_inv e
  obtain ⟨j, hj, rfl⟩ := Option.map_eq_some_iff.1 hv
  obtain ⟨l, hl, hm, hp⟩ := h1.ptr_inv
  rename_i b off k q
  obtain ⟨g1, g2, rfl⟩ := toN_some hj
  refine Step.same hr (u := .pointer (some ⟨l.blk, l.base + (off + q.toNat * sz), none⟩)) ?_ (by simp only [VR]; exact ⟨l, hl, hm, rfl⟩)
  unfold execOp; rw [ho]
  refine run_val ?_
  simp [Instr.indexAt, h2.int_inv, asIntOf, run_und hu, hp, Instr.sureAddr, g1, g2, run_szOf hs, add_lit, Nat.add_assoc]

theorem st_islc (hr : HR B m h w) (ht : VRs m ts a.tmps.toList) {t el : TypeId} {sz : Nat} {x i : Operand} {x' i' : X} (ho : o.op = .indexAddr t x i) (hu : P.underlying t = some (.slice el)) (hs : szOf P el = some sz) (hx : cX x = some x') (hi : cX i = some i')
    (e : opRun call ts (.islc sz x' i') h n lg = some r) : Step P B m n r (execOp a.eval o) w := by
  simp only [opRun] at e
  have h1 := cX_sound ht hx
  have h2 := cX_sound ht hi
  generalize x'.ev ts = v at e h1
  generalize i'.ev ts = v2 at e h2
  cases v <;> first | (simp [A.fail] at e; done) | skip
  cases v2 <;> first | (simp [A.fail] at e; done) | skip
  obtain ⟨v, hv, rfl⟩ := A.ofOpt_inv e
  obtain ⟨j, hj, rfl⟩ := Option.map_eq_some_iff.1 hv
  rename_i b off len c k q
  simp only [VR] at h1
  obtain ⟨l, ad, cc, hl, hm, hp, hle, had, hcap⟩ := h1
  obtain ⟨g1, g2, rfl⟩ := toN_some hj
  have had' : ad = ⟨l.blk, l.base + off, none⟩ := by
    rcases had with had | had
    · omega
    · exact had
  subst had'
  refine Step.same hr (u := .pointer (some ⟨l.blk, l.base + (off + q.toNat * sz), none⟩)) ?_ (by simp only [VR]; exact ⟨l, hl, hm, rfl⟩)
  unfold execOp; rw [ho]
  refine run_val ?_
  simp [Instr.indexAt, h2.int_inv, asIntOf, run_und hu, hp, g1, g2, run_szOf hs, add_lit, Nat.add_assoc]

theorem st_ixa (hr : HR B m h w) (ht : VRs m ts a.tmps.toList) {t el : TypeId} {len sz : Nat} {c : Option Nat} {x i : Operand} {x' i' : X} (ho : o.op = .index t x i) (hu : P.underlying t = some (.array len el)) (hs : szOf P el = some sz) (hc : nOf P el = some c) (hx : cX x = some x') (hi : cX i = some i')
    (e : opRun call ts (.ixa len sz c x' i') h n lg = some r) : Step P B m n r (execOp a.eval o) w := by
  simp only [opRun] at e
  have h1 := cX_sound ht hx
  have h2 := cX_sound ht hi
  generalize x'.ev ts = v at e h1
  generalize i'.ev ts = v2 at e h2
  cases v <;> first | (simp [A.fail] at e; done) | skip
  cases v2 <;> first | (simp [A.fail] at e; done) | skip
  rename_i cs k q
  simp only at e
  cases hj : toN len q with
  | none => rw [hj] at e; simp [A.fail] at e
  | some j =>
    rw [hj] at e
    obtain ⟨v, hv, rfl⟩ := A.ofOpt_inv e
    obtain ⟨ys, hp, hys⟩ := h1.agg_inv
    obtain ⟨g1, g2, rfl⟩ := toN_some hj
    obtain ⟨u, hu', hvu⟩ := partA_run hc hys hv w
    refine Step.same hr ?_ hvu
    unfold execOp; rw [ho]
    refine run_val ?_
    simp [Instr.index, h2.int_inv, asIntOf, run_und hu, hp, g1, g2, run_szOf hs, hu']

theorem st_ixs (hr : HR B m h w) (ht : VRs m ts a.tmps.toList) {t : TypeId} {x i : Operand} {x' i' : X} (ho : o.op = .index t x i) (hu : P.underlying t = some .string) (hx : cX x = some x') (hi : cX i = some i')
    (e : opRun call ts (.ixs x' i') h n lg = some r) : Step P B m n r (execOp a.eval o) w := by
  simp only [opRun] at e
  have h1 := cX_sound ht hx
  have h2 := cX_sound ht hi
  generalize x'.ev ts = v at e h1
  generalize i'.ev ts = v2 at e h2
  cases v <;> first | (simp [A.fail] at e; done) | skip
  cases v2 <;> first | (simp [A.fail] at e; done) | skip
  rename_i s k q
  simp only at e
  cases hj : toN s.size q with
  | none => rw [hj] at e; simp [A.fail] at e
  | some j =>
    rw [hj] at e
    obtain ⟨v, hv, rfl⟩ := A.ofOpt_inv e
    obtain ⟨c, hc, rfl⟩ := Option.map_eq_some_iff.1 hv
    obtain ⟨g1, g2, rfl⟩ := toN_some hj
    refine Step.same hr ?_ (VR.int _ _)
    unfold execOp; rw [ho]
    refine run_val ?_
    have hc' : s[q.toNat]? = some c := by
      obtain ⟨hlt, e⟩ := List.getElem?_eq_some_iff.1 hc
      have hlt' : q.toNat < s.size := by simpa using hlt
      rw [getElem?_pos s q.toNat hlt']
      congr 1
    simp only [Instr.index, Sem.run_bind, h2.int_inv, h1.str_inv, asIntOf, Sem.run_pure, Result.andThen_ok, run_und hu]
    rw [if_pos g1, hc']
    rfl

theorem st_ext (hr : HR B m h w) (ht : VRs m ts a.tmps.toList) {i : Nat} {x : Operand} {x' : X} (ho : o.op = .extract x i) (hx : cX x = some x')
    (e : opRun call ts (.ext x' i) h n lg = some r) : Step P B m n r (execOp a.eval o) w := by
  simp only [opRun] at e
  have h1 := cX_sound ht hx
  generalize x'.ev ts = v at e h1
  cases v <;> first | (simp [A.fail] at e; done) | skip
  obtain ⟨v, hv, rfl⟩ := A.ofOpt_inv e
  obtain ⟨ys, hp, hys⟩ := h1.tup_inv
  obtain ⟨u, hu, hvu⟩ := hys.get hv
  refine Step.same hr ?_ hvu
  unfold execOp; rw [ho]
  refine run_val ?_
  simp [Instr.extract, hp, hu]

end
end Go.Proofs.YtamfoplfbidolaaGreatDoorE

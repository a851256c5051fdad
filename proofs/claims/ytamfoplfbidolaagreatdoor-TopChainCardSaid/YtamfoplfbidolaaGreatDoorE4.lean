/- The engine, part 4: each operation but a call is, run by the model, what the engine says. -/
import Derived.Test.YtamfoplfbidolaaGreatDoorE3
import Derived.ChangeKeysEq
import Derived.Laws.Append
import Derived.Laws.StructEq
namespace Go.Proofs.YtamfoplfbidolaaGreatDoorE
open Go Go.RowKit
set_option linter.unusedVariables false
set_option linter.unusedSimpArgs false

/-! ### Abstract runs, undone -/
theorem A.bind_inv {α β : Type} {x : A α} {f : α → A β} {h : Mem} {n lg : Nat} {r : Rs β} (e : A.bind x f h n lg = some r) :
    ∃ r1 r2, x h n lg = some r1 ∧ f r1.v r1.h r1.nx lg = some r2 ∧ r = ⟨r2.v, r2.h, r2.nx, r1.tc ||| r2.tc, r1.wr ||| r2.wr⟩ := by
  unfold A.bind at e
  split at e
  · cases e
  · rename_i r1 h1
    split at e
    · cases e
    · rename_i r2 h2
      cases e
      exact ⟨r1, r2, h1, h2, rfl⟩
theorem A.ret_inv {α : Type} {v : α} {h : Mem} {n lg : Nat} {r : Rs α} (e : A.ret v h n lg = some r) : r = ⟨v, h, n, 0, 0⟩ := by
  unfold A.ret at e; cases e; rfl
theorem A.ofOpt_inv {α : Type} {o : Option α} {h : Mem} {n lg : Nat} {r : Rs α} (e : A.ofOpt o h n lg = some r) : ∃ v, o = some v ∧ r = ⟨v, h, n, 0, 0⟩ := by
  unfold A.ofOpt at e
  split at e
  · exact ⟨_, rfl, A.ret_inv e⟩
  · cases e
theorem rdBlk_inv {b : Nat} {h : Mem} {n lg : Nat} {r : Rs Blk} (e : rdBlk b h n lg = some r) : ∃ k, h.blk b = some k ∧ r = ⟨k, h, n, bit lg b, 0⟩ := by
  unfold rdBlk at e
  split at e
  · cases e
  · split at e
    · cases e
    · cases e; exact ⟨_, ‹_›, rfl⟩
theorem wrBlk_inv {b : Nat} {cs : List AV} {h : Mem} {n lg : Nat} {r : Rs Unit} (e : wrBlk b cs h n lg = some r) :
    ∃ k, h.blk b = some k ∧ k.own = true ∧ cs.length = k.cells.length ∧ r = ⟨(), h.set b (some { k with cells := cs }), n, bit lg b, bit lg b⟩ := by
  unfold wrBlk at e
  split at e
  · cases e
  · split at e
    · cases e
    · rename_i k hk
      split at e
      · rename_i hc
        rw [Bool.and_eq_true] at hc
        cases e
        exact ⟨k, hk, hc.1, Nat.eq_of_beq_eq_true hc.2, rfl⟩
      · cases e
theorem movBlk_inv {b o : Nat} {cs : List AV} {h : Mem} {n lg : Nat} {r : Rs Nat} (e : movBlk b o cs h n lg = some r) :
    ∃ k, h.blk b = some k ∧ k.own = true ∧ k.grow = true ∧ r = ⟨n, (h.set b none).set n (some ⟨k.ty, k.sz, true, true, cs⟩), n + 1, bit lg b, bit lg b⟩ := by
  unfold movBlk at e
  split at e
  · cases e
  · split at e
    · cases e
    · rename_i k hk
      split at e
      · rename_i hc
        rw [Bool.and_eq_true] at hc
        cases e
        exact ⟨k, hk, hc.1, hc.2, rfl⟩
      · cases e

/-- What a run of the model does, beside the engine's. -/
def Step (P : Program) (B : Nat) (m : Mp) (n : Nat) (r : Rs AV) (s : Sem Next) (w : World) : Prop :=
  ∃ m' u w', (s.run P w = .ok (.value u) w' ∨ (u = undef ∧ s.run P w = .ok .skip w')) ∧ Ext m m' n r.nx ∧ HR B m' r.h w' ∧ VR m' r.v u ∧ Below B w w' ∧ n ≤ r.nx

theorem Step.same {P : Program} {B : Nat} {m : Mp} {n : Nat} {h : Mem} {s : Sem Next} {w : World} {v : AV} {u : Value} {tc wr : Nat} (hr : HR B m h w)
    (e : s.run P w = .ok (.value u) w) (hv : VR m v u) : Step P B m n ⟨v, h, n, tc, wr⟩ s w :=
  ⟨m, u, w, .inl e, Ext.refl m n, hr, hv, Below.refl B w, Nat.le_refl n⟩

theorem info_of_sz {P : Program} {t n : Nat} (h : szOf P t = some n) : ∃ i, P.info? t = some i ∧ i.size = n := by
  unfold szOf at h
  obtain ⟨i, hi, e⟩ := Option.map_eq_some_iff.1 h
  exact ⟨i, hi, e⟩
theorem info_of_by {P : Program} {t n : Nat} (h : byOf P t = some n) : ∃ i, P.info? t = some i ∧ i.bytes = n := by
  unfold byOf at h
  obtain ⟨i, hi, e⟩ := Option.map_eq_some_iff.1 h
  exact ⟨i, hi, e⟩
theorem run_szOf {P : Program} {t n : Nat} (h : szOf P t = some n) (w : World) : (sizeOf t).run P w = .ok n w := by
  obtain ⟨i, hi, e⟩ := info_of_sz h
  simp [sizeOf, typeInfo, hi, e]
theorem run_zeroOf {P : Program} {t : Nat} {z : List AV} (h : zeroOf P t = some z) (w : World) : ∃ v, (zeroValue t).run P w = .ok v w ∧ ∀ m, VRs m z v.cells.toList := by
  unfold zeroOf at h
  obtain ⟨i, hi, h⟩ := Option.bind_eq_some_iff.1 h
  obtain ⟨v, hv, h⟩ := Option.bind_eq_some_iff.1 h
  exact ⟨v, by simp [zeroValue, typeInfo, hi, hv], fun m => ofVals_sound m h⟩
theorem run_und {P : Program} {t : Nat} {d : TypeDesc} (h : P.underlying t = some d) (w : World) : (underlying t).run P w = .ok d w := by
  simp [underlying, h]

/-! ### Pure operations -/
theorem VR.bool_inv {m : Mp} {b : Bool} {v : Value} (h : VR m (.bool b) v) : v = .bool b := by simpa [VR] using h
theorem VR.int_inv {m : Mp} {k : IntKind} {n : Int} {v : Value} (h : VR m (.int k n) v) : v = .int k n := by simpa [VR] using h
theorem VR.str_inv {m : Mp} {s : ByteArray} {v : Value} (h : VR m (.str s) v) : v = .string s := by simpa [VR] using h
theorem VR.bool {m : Mp} (b : Bool) : VR m (.bool b) (.bool b) := by simp only [VR]
theorem VR.int {m : Mp} (k : IntKind) (n : Int) : VR m (.int k n) (.int k n) := by simp only [VR]
theorem VR.str {m : Mp} (s : ByteArray) : VR m (.str s) (.string s) := by simp only [VR]

theorem decide_or {p : Prop} [Decidable p] : decide p = true ∨ decide p = false := by cases decide p <;> simp

theorem ibin_sound {P : Program} {op : BinOp} {k : IntKind} {a b : Int} {r : AV} (hs : isShift op = false) (h : ibin op k a b = some r) (m : Mp) (t : TypeId) (w : World) :
    ∃ u, (binOp op t (.int k a) (.int k b)).run P w = .ok u w ∧ VR m r u := by
  cases op <;> simp only [isShift] at hs <;> simp only [ibin] at h
  case quo =>
    split at h
    · cases h
    · rename_i hb; cases h
      have hb' : b ≠ 0 := by simpa using hb
      exact ⟨_, by simp [binOp, Op.intDiv, hb'], VR.int _ _⟩
  case rem =>
    split at h
    · cases h
    · rename_i hb; cases h
      have hb' : b ≠ 0 := by simpa using hb
      exact ⟨_, by simp [binOp, Op.intDiv, hb'], VR.int _ _⟩
  all_goals first
    | (cases h; done)
    | (cases h
       first
         | exact ⟨_, by simp only [binOp]; rw [if_neg (by simp)]; rfl, VR.int _ _⟩
         | exact ⟨_, by simp only [binOp]; rw [if_neg (by simp)]; rfl, VR.bool _⟩)

theorem ishift_sound {P : Program} {op : BinOp} {k yk : IntKind} {a b : Int} {r : AV} (hs : isShift op = true) (h : ishift op k a b = some r) (m : Mp) (t : TypeId) (w : World) :
    ∃ u, (binOp op t (.int k a) (.int yk b)).run P w = .ok u w ∧ VR m r u := by
  unfold ishift at h
  split at h
  · cases h
  · rename_i hb
    have hb' : ¬ b < 0 := by simpa using hb
    cases op <;> simp [isShift] at hs
    all_goals
      simp only at h
      cases h
      exact ⟨_, by simp only [binOp, Op.shift]; rw [if_neg hb']; rfl, VR.int _ _⟩

theorem guard_int {P : Program} (op : BinOp) (t : TypeId) (X Y : Operand) (k k' : IntKind) (a b : Int) (w : World) : (eqGuard op t X Y (.int k a) (.int k' b)).run P w = .ok () w := by
  unfold eqGuard
  cases op <;> rfl
theorem guard_str {P : Program} (op : BinOp) (t : TypeId) (X Y : Operand) (a b : ByteArray) (w : World) : (eqGuard op t X Y (.string a) (.string b)).run P w = .ok () w := by
  unfold eqGuard
  cases op <;> rfl

theorem abin_sound {P : Program} {op : BinOp} {x y r : AV} {u v : Value} {m : Mp} (h : abin op x y = some r) (hx : VR m x u) (hy : VR m y v) (t : TypeId) (X Y : Operand) (w : World) :
    ∃ z, (binOp op t u v).run P w = .ok z w ∧ VR m r z ∧ (eqGuard op t X Y u v).run P w = .ok () w := by
  unfold abin at h
  split at h
  · rename_i k a k' b
    rw [hx.int_inv, hy.int_inv]
    split at h
    · rename_i hs
      obtain ⟨z, hz, hv⟩ := ishift_sound (P := P) (yk := k') hs h m t w
      exact ⟨z, hz, hv, guard_int ..⟩
    · rename_i hs
      split at h
      · rename_i hk
        have hk' : k = k' := by simpa using hk
        subst hk'
        obtain ⟨z, hz, hv⟩ := ibin_sound (P := P) hs h m t w
        exact ⟨z, hz, hv, guard_int ..⟩
      · cases h
  · rename_i a b
    rw [hx.str_inv, hy.str_inv]
    split at h <;> first | cases h | skip
    · exact ⟨_, rfl, VR.bool _, guard_str ..⟩
    · exact ⟨_, rfl, VR.bool _, guard_str ..⟩
    · exact ⟨_, rfl, VR.bool _, guard_str ..⟩
    · split at h <;> cases h
      rename_i hb
      have hle := Nat.le_of_ble_eq_true hb
      refine ⟨.string (a ++ b), ?_, VR.str _, guard_str ..⟩
      simp only [binOp, Op.stringOp]
      have : ¬ ((a.size + b.size : Nat) : Int) > IntKind.i64.max := by
        have e : IntKind.i64.max = 9223372036854775807 := by decide
        rw [e]; omega
      rw [if_neg this]
      rfl
  · cases h

/-! ### Equality -/
def aggD : TypeDesc → Bool
  | .struct _ | .array _ _ => true
  | _ => false
def stK : EqK → Bool
  | .st _ => true
  | _ => false
theorem run_nAgg {P : Program} {t : Nat} {d : TypeDesc} (h : P.underlying t = some d) (hd : aggD d = false) (w : World) : (isAgg t).run P w = .ok false w := by
  unfold isAgg
  simp only [Sem.run_bind, run_und h, Result.andThen_ok]
  cases d <;> simp [aggD] at hd <;> rfl
theorem run_yAgg {P : Program} {t : Nat} {d : TypeDesc} (h : P.underlying t = some d) (hd : aggD d = true) (w : World) : (isAgg t).run P w = .ok true w := by
  unfold isAgg
  simp only [Sem.run_bind, run_und h, Result.andThen_ok]
  cases d <;> simp [aggD] at hd <;> rfl

theorem sub_run {m : Mp} {cs r : List AV} {ys : List Value} {o n : Nat} (h : sub cs o n = some r) (hv : VRs m cs ys) : VRs m r ((ys.toArray.extract o (o + n)).toList) := by
  obtain ⟨h1, rfl⟩ := sub_some h
  have := VRs.take n (VRs.drop o hv)
  simpa [List.extract, Array.toList_extract] using this

theorem part_one {P : Program} {t : Nat} {d : TypeDesc} (h : P.underlying t = some d) (hd : aggD d = false)
    {m : Mp} {cs : List AV} {ys : List Value} {o : Nat} {x : AV} (hv : VRs m cs ys) (hx : cs[o]? = some x) (w : World) : ∃ u, (part t ys.toArray o).run P w = .ok u w ∧ VR m x u := by
  obtain ⟨u, hu, r⟩ := hv.get hx
  refine ⟨u, ?_, r⟩
  unfold part
  simp only [Sem.run_bind, run_nAgg h hd, Result.andThen_ok]
  simp [hu]

theorem part_sub {P : Program} {t n : Nat} {d : TypeDesc} (h : P.underlying t = some d) (hd : aggD d = true) (hn : szOf P t = some n)
    {m : Mp} {cs r : List AV} {ys : List Value} {o : Nat} (hv : VRs m cs ys) (hx : sub cs o n = some r) (w : World) : ∃ u, (part t ys.toArray o).run P w = .ok u w ∧ VR m (.agg r) u := by
  refine ⟨.agg (ys.toArray.extract o (o + n)), ?_, ?_⟩
  · unfold part
    simp only [Sem.run_bind, run_yAgg h hd, Result.andThen_ok]
    simp [run_szOf hn]
  · simp only [VR]
    exact ⟨_, by simp, sub_run hx hv⟩

theorem partA_run {P : Program} {t : Nat} {n : Option Nat} (hn : nOf P t = some n) {m : Mp} {cs : List AV} {ys : List Value} {o : Nat} {x : AV} (hv : VRs m cs ys) (hx : partA cs o n = some x) (w : World) :
    ∃ u, (part t ys.toArray o).run P w = .ok u w ∧ VR m x u := by
  unfold nOf at hn
  split at hn
  · rename_i fs hu
    obtain ⟨k, hk, rfl⟩ := Option.map_eq_some_iff.1 hn
    obtain ⟨r, hr, rfl⟩ := Option.map_eq_some_iff.1 hx
    exact part_sub hu rfl hk hv hr w
  · rename_i a b hu
    obtain ⟨k, hk, rfl⟩ := Option.map_eq_some_iff.1 hn
    obtain ⟨r, hr, rfl⟩ := Option.map_eq_some_iff.1 hx
    exact part_sub hu rfl hk hv hr w
  · rename_i d h1 h2 hu
    cases hn
    refine part_one hu ?_ hv hx w
    cases d <;> first | rfl | exact (h1 _ rfl).elim | exact (h2 _ _ rfl).elim
  · cases hn

theorem scal_run {P : Program} {x y : AV} {u v : Value} {m : Mp} {r : Bool} {k : EqK} {t d : Nat} (hk : eqkOf P (d + 1) t = some k) (hs : ∀ fs, k ≠ .st fs) (h : eqA k x y = some r) (hx : VR m x u) (hy : VR m y v)
    (D : Nat) (w : World) : (Op.equalIn (D + 1) t u v).run P w = .ok r w := by
  unfold eqkOf at hk
  split at hk <;> first | (cases hk; done) | skip
  · rename_i hu; cases hk
    simp only [eqA] at h
    unfold eqB at h
    split at h <;> first | (cases h; done) | skip
    cases h
    have e1 := hx.bool_inv; have e2 := hy.bool_inv; subst e1; subst e2
    simp [Op.equalIn, run_und hu]
  · rename_i q hu; cases hk
    simp only [eqA] at h
    unfold eqI at h
    split at h <;> first | (cases h; done) | skip
    split at h <;> first | (cases h; done) | skip
    rename_i hkk
    have hkk' := of_decide_eq_true hkk
    subst hkk'
    cases h
    have e1 := hx.int_inv; have e2 := hy.int_inv; subst e1; subst e2
    simp [Op.equalIn, run_und hu]
  · rename_i hu; cases hk
    simp only [eqA] at h
    unfold eqS at h
    split at h <;> first | (cases h; done) | skip
    cases h
    have e1 := hx.str_inv; have e2 := hy.str_inv; subst e1; subst e2
    simp [Op.equalIn, run_und hu]
  · rename_i e hu; cases hk
    simp only [eqA] at h
    unfold eqP at h
    split at h <;> first | (cases h; done) | skip
    · cases h; simp only [VR] at hx hy; subst hx; subst hy; simp [Op.equalIn, run_und hu]
    · cases h; simp only [VR] at hx hy; obtain ⟨l, _, _, rfl⟩ := hy; subst hx; simp [Op.equalIn, run_und hu]
    · cases h; simp only [VR] at hx hy; obtain ⟨l, _, _, rfl⟩ := hx; subst hy; simp [Op.equalIn, run_und hu]
  · rename_i e hu; cases hk
    simp only [eqA] at h
    unfold eqL at h
    split at h <;> first | (cases h; done) | skip
    · cases h; simp only [VR] at hx hy; subst hx; subst hy; simp [Op.equalIn, run_und hu]
    · cases h; simp only [VR] at hx hy; obtain ⟨l, a, c, _, _, rfl, _⟩ := hy; subst hx; simp [Op.equalIn, run_und hu]
    · cases h; simp only [VR] at hx hy; obtain ⟨l, a, c, _, _, rfl, _⟩ := hx; subst hy; simp [Op.equalIn, run_und hu]
  · rename_i e hu; cases hk
    simp only [eqA] at h
    unfold eqIf at h
    split at h <;> first | (cases h; done) | skip
    · cases h; simp only [VR] at hx hy; obtain ⟨z, rfl, _⟩ := hy; subst hx; simp [Op.equalIn, run_und hu]
    · cases h; simp only [VR] at hx hy; obtain ⟨z, rfl, _⟩ := hx; subst hy; simp [Op.equalIn, run_und hu]
  · split at hk
    · cases hk
    · obtain ⟨fs', _, rfl⟩ := Option.map_eq_some_iff.1 hk
      exact absurd rfl (hs fs')
  · split at hk <;> first | (cases hk; done) | skip
    cases hk
    exact absurd rfl (hs _)

theorem partT_run {P : Program} {e : TypeId} {k : EqK} {n o : Nat} {q : TypeDesc} (hu : P.underlying e = some q) (hn : szOf P e = some n)
    (hk : stK k = aggD q) {m : Mp} {xs : List AV} {us : List Value} {x : AV} (hx : partK k xs o n = some x) (hv : VRs m xs us) (w : World) :
    ∃ u, (part e us.toArray o).run P w = .ok u w ∧ VR m x u := by
  cases k with
  | st fs =>
    simp only [partK] at hx
    obtain ⟨r, hr, rfl⟩ := Option.map_eq_some_iff.1 hx
    exact part_sub hu hk.symm hn hv hr w
  | b => exact part_one hu hk.symm hv hx w
  | i => exact part_one hu hk.symm hv hx w
  | s => exact part_one hu hk.symm hv hx w
  | p => exact part_one hu hk.symm hv hx w
  | l => exact part_one hu hk.symm hv hx w
  | f => exact part_one hu hk.symm hv hx w
theorem eqkOf_agg {P : Program} {d : Nat} {e : TypeId} {k : EqK} (h : eqkOf P d e = some k) : ∃ q, P.underlying e = some q ∧ stK k = aggD q := by
  cases d with
  | zero => cases h
  | succ d =>
    unfold eqkOf at h
    split at h <;> first | (cases h; done) | skip
    all_goals rename_i hu
    all_goals refine ⟨_, hu, ?_⟩
    all_goals try (cases h; rfl; done)
    · split at h <;> first | (cases h; done) | skip
      obtain ⟨fs', _, rfl⟩ := Option.map_eq_some_iff.1 h
      rfl
    · split at h <;> first | (cases h; done) | skip
      cases h
      rfl

theorem partK_run {P : Program} {f : Field} {k : EqK} {n : Nat} {q : TypeDesc} (hu : P.underlying f.type = some q) (hn : szOf P f.type = some n)
    (hk : stK k = aggD q) {m : Mp} {xs : List AV} {us : List Value} {x : AV} (hx : partK k xs f.offset n = some x) (hv : VRs m xs us) (w : World) :
    ∃ u, (part f.type us.toArray f.offset).run P w = .ok u w ∧ VR m x u := by
  cases k with
  | st fs =>
    simp only [partK] at hx
    obtain ⟨r, hr, rfl⟩ := Option.map_eq_some_iff.1 hx
    exact part_sub hu hk.symm hn hv hr w
  | b => exact part_one hu hk.symm hv hx w
  | i => exact part_one hu hk.symm hv hx w
  | s => exact part_one hu hk.symm hv hx w
  | p => exact part_one hu hk.symm hv hx w
  | l => exact part_one hu hk.symm hv hx w
  | f => exact part_one hu hk.symm hv hx w

theorem eqA_st {ks : List (Nat × Nat × EqK)} {x y : AV} {r : Bool} (h : eqA (.st ks) x y = some r) : ∃ xs ys, x = .agg xs ∧ y = .agg ys ∧ eqFs ks xs ys = some r := by
  cases x with
  | agg xs =>
    cases y with
    | agg ys => exact ⟨xs, ys, rfl, rfl, by simpa only [eqA] using h⟩
    | _ => simp [eqA] at h
  | _ => simp [eqA] at h

theorem eqFs_run {P : Program} {m : Mp} {d D : Nat} (w : World)
    (ih : ∀ (t : TypeId) (k : EqK) (x y : AV) (u v : Value) (r : Bool), eqkOf P d t = some k → eqA k x y = some r → VR m x u → VR m y v → (Op.equalIn D t u v).run P w = .ok r w)
    (sc : ∀ (t : TypeId) (k : EqK) (x y : AV) (u v : Value) (r : Bool), eqkOf P 1 t = some k → (∀ fs, k ≠ .st fs) → eqA k x y = some r → VR m x u → VR m y v → (Op.equalIn D t u v).run P w = .ok r w)
    (xs ys : List AV) (us vs : List Value) (hx : VRs m xs us) (hy : VRs m ys vs) :
    ∀ (fs : List Field) (ks : List (Nat × Nat × EqK)) (r : Bool), eqkF P (eqkOf P d) fs = some ks → eqFs ks xs ys = some r → (Op.eqFields D us.toArray vs.toArray fs).run P w = .ok r w
  | [], ks, r, hk, h => by
    cases hk
    simp only [eqFs] at h; cases h
    simp [Op.eqFields]
  | f :: fs, ks, r, hk, h => by
    simp only [eqkF] at hk
    split at hk <;> first | (cases hk; done) | skip
    rename_i q n ks' hname hu hn hks
    have hne : f.name ≠ "_" := by simpa using hname
    have IH := eqFs_run w ih sc xs ys us vs hx hy fs ks'
    have main : ∀ (k : EqK), stK k = aggD q →
        (∀ (x y : AV) (u v : Value) (r : Bool), eqA k x y = some r → VR m x u → VR m y v → (Op.equalIn D f.type u v).run P w = .ok r w) →
        eqFs ((f.offset, n, k) :: ks') xs ys = some r → (Op.eqFields D us.toArray vs.toArray (f :: fs)).run P w = .ok r w := by
      intro k hkq hrun h
      simp only [eqFs] at h
      split at h <;> first | (cases h; done) | skip
      rename_i x y hpx hpy
      obtain ⟨u, pu, ru⟩ := partK_run hu hn hkq hpx hx w
      obtain ⟨v, pv, rv⟩ := partK_run hu hn hkq hpy hy w
      simp only [Op.eqFields, hne, ne_eq, not_false_eq_true, if_true, Sem.run_bind, pu, pv, Result.andThen_ok]
      split at h <;> first | (cases h; done) | skip
      · rename_i he
        rw [hrun x y u v true he ru rv]
        simp only [Result.andThen_ok]
        simpa using IH r hks h
      · rename_i he
        cases h
        rw [hrun x y u v false he ru rv]
        simp
    split at hk <;> first | (cases hk; done) | skip
    · cases hk
      exact main .b rfl (fun x y u v r e a b => sc f.type .b x y u v r (by simp [eqkOf, hu]) (fun _ e => by cases e) e a b) h
    · cases hk
      exact main .i rfl (fun x y u v r e a b => sc f.type .i x y u v r (by simp [eqkOf, hu]) (fun _ e => by cases e) e a b) h
    · cases hk
      exact main .s rfl (fun x y u v r e a b => sc f.type .s x y u v r (by simp [eqkOf, hu]) (fun _ e => by cases e) e a b) h
    · split at hk <;> first | (cases hk; done) | skip
      rename_i kk hrec
      cases hk
      exact main (.st kk) rfl (fun x y u v r e a b => ih f.type (.st kk) x y u v r hrec e a b) h

theorem eqItems_run {P : Program} {m : Mp} {D n : Nat} {e : TypeId} {k : EqK} (w : World) {q : TypeDesc} (hu : P.underlying e = some q) (hn : szOf P e = some n) (hk : stK k = aggD q)
    (ih : ∀ (x y : AV) (u v : Value) (r : Bool), eqA k x y = some r → VR m x u → VR m y v → (Op.equalIn D e u v).run P w = .ok r w)
    (xs ys : List AV) (us vs : List Value) (hx : VRs m xs us) (hy : VRs m ys vs) :
    ∀ (is : List Nat) (r : Bool), eqFs (is.map fun i => (i * n, n, k)) xs ys = some r → (Op.eqItems D e n us.toArray vs.toArray is).run P w = .ok r w
  | [], r, h => by
    simp only [List.map_nil, eqFs] at h; cases h
    simp [Op.eqItems]
  | i :: is, r, h => by
    simp only [List.map_cons, eqFs] at h
    split at h <;> first | (cases h; done) | skip
    rename_i x y hpx hpy
    obtain ⟨u, pu, ru⟩ := partT_run hu hn hk hpx hx w
    obtain ⟨v, pv, rv⟩ := partT_run hu hn hk hpy hy w
    simp only [Op.eqItems, Sem.run_bind, pu, pv, Result.andThen_ok]
    split at h <;> first | (cases h; done) | skip
    · rename_i he
      rw [ih x y u v true he ru rv]
      simpa using eqItems_run w hu hn hk ih xs ys us vs hx hy is r h
    · rename_i he
      cases h
      rw [ih x y u v false he ru rv]
      simp

theorem eq_run {P : Program} {m : Mp} (w : World) : ∀ (d : Nat) (t : TypeId) (k : EqK) (x y : AV) (u v : Value) (r : Bool), eqkOf P d t = some k → eqA k x y = some r → VR m x u → VR m y v →
    ∀ D, d < D → (Op.equalIn D t u v).run P w = .ok r w
  | 0, t, k, x, y, u, v, r, hk, _, _, _, _, _ => by cases hk
  | d + 1, t, k, x, y, u, v, r, hk, h, hx, hy, D, hD => by
    obtain ⟨D, rfl⟩ : ∃ e, D = e + 1 + 1 := ⟨D - 2, by omega⟩
    by_cases hs : ∀ fs, k ≠ .st fs
    · exact scal_run hk hs h hx hy (D + 1) w
    · have hs' : ∃ fs, k = .st fs := by
        cases k <;> first | exact ⟨_, rfl⟩ | exact (hs (fun _ e => by cases e)).elim
      obtain ⟨ks, rfl⟩ := hs'
      unfold eqkOf at hk
      split at hk <;> first | (cases hk; done) | skip
      rotate_left
      · rename_i len e hu
        split at hk <;> first | (cases hk; done) | skip
        rename_i k n hke hn
        have e' : ks = (List.range len).map fun i => (i * n, n, k) := by injection hk with hk; injection hk with hk; exact hk.symm
        subst e'
        obtain ⟨xs, ys, rfl, rfl, h⟩ := eqA_st h
        simp only [VR] at hx hy
        obtain ⟨us, rfl, hx⟩ := hx
        obtain ⟨vs, rfl, hy⟩ := hy
        obtain ⟨q, hq, hkq⟩ := eqkOf_agg hke
        obtain ⟨i, hi, hsz⟩ := info_of_sz hn
        have hc : P.cellsOf e = n := by unfold Program.cellsOf; rw [hi]; exact hsz
        rw [run_equalIn_array w (D + 1) us.toArray vs.toArray hu hi, hc]
        exact eqItems_run w hq hn hkq (fun x y u v r ha hu hv => eq_run w d e k x y u v r hke ha hu hv (D + 1) (by omega)) xs ys us vs hx hy _ r h
      rename_i fs hu
      split at hk <;> first | (cases hk; done) | skip
      rename_i hst
      obtain ⟨ks', hks, e⟩ := Option.map_eq_some_iff.1 hk
      have e' : ks' = ks := by injection e
      subst e'
      have hf : P.fieldsOf t = fs := by simp [Program.fieldsOf, hu]
      obtain ⟨xs, ys, rfl, rfl, h⟩ := eqA_st h
      simp only [VR] at hx hy
      obtain ⟨us, rfl, hx⟩ := hx
      obtain ⟨vs, rfl, hy⟩ := hy
      rw [run_equalIn_struct w (D + 1) t us.toArray vs.toArray (by rw [hf]; exact hu) hst, hf]
      exact eqFs_run w (fun t k x y u v r e ha hu hv => eq_run w d t k x y u v r e ha hu hv (D + 1) (by omega)) (fun t k x y u v r e hs ha hu hv => scal_run e hs ha hu hv D w) _ _ _ _ hx hy fs.toList ks' r hks h

end Go.Proofs.YtamfoplfbidolaaGreatDoorE

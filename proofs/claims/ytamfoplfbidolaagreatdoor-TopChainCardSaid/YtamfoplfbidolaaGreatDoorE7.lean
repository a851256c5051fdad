/- The engine, part 7: operations that make memory, and the built-in functions. -/
import Derived.Test.YtamfoplfbidolaaGreatDoorE6
namespace Go.Proofs.YtamfoplfbidolaaGreatDoorE
open Go Go.RowKit
set_option linter.unusedVariables false
set_option linter.unusedSimpArgs false

/-! ### Lists -/
theorem lay_step {α : Type} (l : List α) (k : Nat) (v : α) (rest : List α) (h : k + (rest.length + 1) ≤ l.length) : lay (l.set k v) (k + 1) rest = lay l k (v :: rest) := by
  apply List.ext_getElem?
  intro j
  rw [lay_get (by simp; omega), lay_get (by simp; omega)]
  simp only [List.length_cons]
  by_cases h1 : j < k
  · rw [if_pos (by omega), if_pos h1, List.getElem?_set_ne (by omega)]
  · rw [if_neg h1]
    by_cases h2 : j = k
    · subst h2
      rw [if_pos (by omega), if_pos (by omega), Nat.sub_self]
      simp [List.getElem?_set]; omega
    · rw [if_neg (by omega)]
      by_cases h3 : j < k + (rest.length + 1)
      · rw [if_pos (by omega), if_pos h3, show j - k = (j - (k + 1)) + 1 by omega, List.getElem?_cons_succ]
      · rw [if_neg (by omega), if_neg h3, List.getElem?_set_ne (by omega)]

theorem fold_lay (off : Nat) : ∀ (vs : List Value) (i : Nat) (cells : Array Value), off + i + vs.length ≤ cells.size →
    ((vs.zipIdx i).foldl (fun cs p => cs.setIfInBounds (off + p.2) p.1) cells).toList = lay cells.toList (off + i) vs
  | [], i, cells, h => by simp [lay]
  | v :: vs, i, cells, h => by
    simp only [List.zipIdx_cons, List.foldl_cons]
    rw [fold_lay off vs (i + 1) _ (by simp at h ⊢; omega)]
    rw [Array.toList_setIfInBounds, ← Nat.add_assoc]
    exact lay_step _ _ _ _ (by simp at h ⊢; omega)

theorem reps_length {α : Type} (z : List α) : ∀ n, (reps n z).length = n * z.length
  | 0 => by simp [reps]
  | n + 1 => by simp [reps, reps_length z n, Nat.succ_mul, Nat.add_comm]
theorem reps_get {α : Type} (z : List α) : ∀ (n j : Nat), j < n * z.length → (reps n z)[j]? = z[j % z.length]?
  | 0, j, h => by simp at h
  | n + 1, j, h => by
    simp only [reps]
    by_cases h1 : j < z.length
    · rw [List.getElem?_append_left h1, Nat.mod_eq_of_lt h1]
    · rw [List.getElem?_append_right (by omega), reps_get z n (j - z.length) (by rw [Nat.succ_mul] at h; omega)]
      congr 1
      rw [← Nat.mod_eq_sub_mod (by omega)]
theorem made_list (n : Nat) (z : Array Value) : ((Array.range (n * z.size)).map (fun i => z[i % z.size]!)).toList = reps n z.toList := by
  apply List.ext_getElem?
  intro j
  by_cases h : j < n * z.size
  · rw [reps_get _ _ _ (by simpa using h)]
    have hz : 0 < z.size := by
      rcases Nat.eq_zero_or_pos z.size with e | e
      · rw [e] at h; simp at h
      · exact e
    have hm : j % z.size < z.size := Nat.mod_lt _ hz
    simp [h, getElem!_pos, hm]
  · rw [List.getElem?_eq_none_iff.2 (by simpa using h), List.getElem?_eq_none_iff.2 (by rw [reps_length]; simpa using h)]

/-! ### Parts of what is built -/
theorem fill_run {m : Mp} (place : Nat → Option (Nat × Nat)) {ts : List AV} {a : Act} (ht : VRs m ts a.tmps.toList) : ∀ (ps : List (Nat × Operand)) (qs : List (Nat × Nat × X)) (cs : List AV) (us : Array Value) (rs : List AV),
    cParts place ps = some qs → VRs m cs us.toList → fillA cs (qs.map fun (o, n, x) => (o, n, x.ev ts)) = some rs →
    ∃ vs, Instr.fill place us (ps.map fun (i, x) => (i, a.eval x)) = some vs ∧ VRs m rs vs.toList
  | [], qs, cs, us, rs, h, hv, e => by
    cases h
    simp only [List.map_nil, fillA] at e; cases e
    exact ⟨us, rfl, hv⟩
  | (i, x) :: ps, qs, cs, us, rs, h, hv, e => by
    simp only [cParts] at h
    split at h <;> first | (cases h; done) | skip
    rename_i f n x' xs hp hx hxs
    cases h
    simp only [List.map_cons, fillA] at e
    split at e <;> first | (cases e; done) | skip
    rename_i hb
    rw [Bool.and_eq_true] at hb
    have hc := (cX_sound ht hx).cells
    have hl := hc.length
    have hul := hv.length
    have e1 := Nat.eq_of_beq_eq_true hb.1
    have e2 := Nat.le_of_ble_eq_true hb.2
    have hsz : (a.eval x).cells.size = n := by rw [← Array.length_toList, hl]; exact e1
    have hus : us.size = cs.length := by rw [← Array.length_toList, hul]
    simp only [List.map_cons, Instr.fill, hp]
    rw [if_neg (by simp [hsz]; omega)]
    refine fill_run place ht ps xs _ _ rs hxs ?_ e
    have hz : ((a.eval x).cells.zipIdx.foldl (fun cs p => cs.setIfInBounds (f + p.2) p.1) us).toList = lay us.toList f (a.eval x).cells.toList := by
      rw [← Array.foldl_toList, Array.toList_zipIdx]
      exact fold_lay f (a.eval x).cells.toList 0 us (by simp; omega)
    have hz' : ((a.eval x).cells.zipIdx.foldl (fun cs (c, j) => cs.setIfInBounds (f + j) c) us).toList = lay us.toList f (a.eval x).cells.toList := hz
    rw [hz']
    exact VRs.lay hv hc

theorem run_places {P : Program} (w : World) : ∀ fs : List Field, (∀ f ∈ fs, (szOf P f.type).isSome = true) →
    (fs.mapM (fun f => do pure (f.offset, ← sizeOf f.type)) : Sem (List (Nat × Nat))).run P w = .ok (fs.map fun f => (f.offset, (szOf P f.type).getD 0)) w
  | [], _ => by simp
  | f :: fs, h => by
    obtain ⟨n, hn⟩ := Option.isSome_iff_exists.1 (h f (by simp))
    have ih := run_places w fs (fun g hg => h g (by simp [hg]))
    simp only [List.mapM_cons, Sem.run_bind, run_szOf hn, Result.andThen_ok, Sem.run_pure, ih, List.map_cons, hn, Option.getD_some]

section
variable {P : Program} {B : Nat} {m : Mp} {h : Mem} {w : World} {ts : List AV} {a : Act} {n lg : Nat} {r : Rs AV} {o : Oper} {call : FuncId → List AV → A AV}

theorem st_build_struct (hr : HR B m h w) (ht : VRs m ts a.tmps.toList) {t : TypeId} {fs : Array Field} {z : List AV} {ps : Array (Nat × Operand)} {qs : List (Nat × Nat × X)} (ho : o.op = .build t ps) (hz : zeroOf P t = some z) (hu : P.underlying t = some (.struct fs))
    (hall : ∀ f ∈ fs.toList, (szOf P f.type).isSome = true) (hq : cParts (fun i => (fs[i]?).bind fun f => (szOf P f.type).map fun n => (f.offset, n)) ps.toList = some qs)
    (e : opRun call ts (.build z qs) h n lg = some r) : Step P B m n r (execOp a.eval o) w := by
  simp only [opRun] at e
  obtain ⟨v, hv, rfl⟩ := A.ofOpt_inv e
  obtain ⟨cs, hcs, rfl⟩ := Option.map_eq_some_iff.1 hv
  obtain ⟨zv, hzr, hzv⟩ := run_zeroOf hz w
  obtain ⟨vs, hf, hvs⟩ := fill_run _ ht ps.toList qs z zv.cells cs hq (hzv m) hcs
  refine Step.same hr (u := .agg vs) ?_ (by simp only [VR]; exact ⟨vs.toList, by simp, hvs⟩)
  unfold execOp; rw [ho]
  refine run_val ?_
  have hp := run_places (P := P) w fs.toList hall
  have hpl : (fun (i : Nat) => (fs[i]?).bind fun (f : Field) => (szOf P f.type).map fun n => (f.offset, n)) = fun (i : Nat) => ((fs.toList.map fun (f : Field) => (f.offset, (szOf P f.type).getD 0)).toArray)[i]? := by
    funext i
    simp only [List.getElem?_toArray, List.getElem?_map, Array.getElem?_toList]
    cases hfi : fs[i]? with
    | none => rfl
    | some f =>
      obtain ⟨k, hk⟩ := Option.isSome_iff_exists.1 (hall f (by
        obtain ⟨hlt, e⟩ := Array.getElem?_eq_some_iff.1 hfi
        rw [← e]; simp))
      simp [hk]
  rw [hpl] at hf
  have hmap : (ps.map fun (i, x) => (i, a.eval x)).toList = ps.toList.map fun (i, x) => (i, a.eval x) := by simp
  simp only [Instr.build, Sem.run_bind, hzr, Result.andThen_ok, run_und hu, Array.mapM_eq_mapM_toList, Sem.run_map, hp, hmap, hf, Sem.run_pure]

theorem st_build_array (hr : HR B m h w) (ht : VRs m ts a.tmps.toList) {t el : TypeId} {len sz : Nat} {z : List AV} {ps : Array (Nat × Operand)} {qs : List (Nat × Nat × X)} (ho : o.op = .build t ps) (hz : zeroOf P t = some z) (hu : P.underlying t = some (.array len el))
    (hs : szOf P el = some sz) (hq : cParts (fun i => some (i * sz, sz)) ps.toList = some qs)
    (e : opRun call ts (.build z qs) h n lg = some r) : Step P B m n r (execOp a.eval o) w := by
  simp only [opRun] at e
  obtain ⟨v, hv, rfl⟩ := A.ofOpt_inv e
  obtain ⟨cs, hcs, rfl⟩ := Option.map_eq_some_iff.1 hv
  obtain ⟨zv, hzr, hzv⟩ := run_zeroOf hz w
  obtain ⟨vs, hf, hvs⟩ := fill_run _ ht ps.toList qs z zv.cells cs hq (hzv m) hcs
  refine Step.same hr (u := .agg vs) ?_ (by simp only [VR]; exact ⟨vs.toList, by simp, hvs⟩)
  unfold execOp; rw [ho]
  refine run_val ?_
  have hmap : (ps.map fun (i, x) => (i, a.eval x)).toList = ps.toList.map fun (i, x) => (i, a.eval x) := by simp
  simp only [Instr.build, Sem.run_bind, hzr, Result.andThen_ok, run_und hu, run_szOf hs, hmap, hf, Sem.run_pure]

theorem st_bslice (hr : HR B m h w) (ht : VRs m ts a.tmps.toList) (hf : Fresh m n r.nx) {t el : TypeId} {len sz : Nat} {z : List AV} {ps : Array (Nat × Operand)} {qs : List (Nat × Nat × X)} (ho : o.op = .buildSlice t len ps) (hz : zeroOf P el = some z) (hu : P.underlying t = some (.slice el))
    (hs : szOf P el = some sz) (hzl : z.length = sz) (hle : len * sz ≤ 2 ^ 24) (hq : cParts (fun i => some (i * sz, sz)) ps.toList = some qs)
    (e : opRun call ts (.bslice el sz len z qs) h n lg = some r) : Step P B m n r (execOp a.eval o) w := by
  simp only [opRun] at e
  obtain ⟨r1, r2, e1, e2, rfl⟩ := A.bind_inv e
  obtain ⟨cs, hcs, rfl⟩ := A.ofOpt_inv e1
  obtain ⟨r3, r4, e3, e4, rfl⟩ := A.bind_inv e2
  unfold newBlk at e3; cases e3
  have e5 := A.ret_inv e4; subst e5
  obtain ⟨zv, hzr, hzv⟩ := run_zeroOf hz w
  have hzs : zv.cells.size = sz := by rw [← Array.length_toList, (hzv m).length, hzl]
  have hreps := VRs.reps (hzv m) len
  have hml := made_list len zv.cells
  rw [hzs] at hml
  rw [← hml] at hreps
  obtain ⟨vs, hfl, hvs⟩ := fill_run _ ht ps.toList qs (reps len z) ((Array.range (len * sz)).map (fun i => zv.cells[i % sz]!)) cs hq hreps hcs
  refine Step.new hr (hf n (Nat.le_refl _) (Nat.lt_succ_self n)) el sz false (rest := []) hvs el (u := .slice (some ⟨w.heap.size, 0, none⟩) len len) ?_ ?_
  · unfold execOp; rw [ho]
    refine run_val ?_
    have hmap : (ps.map fun (i, x) => (i, a.eval x)).toList = ps.toList.map fun (i, x) => (i, a.eval x) := by simp
    have hle' : ¬ len * sz > 2 ^ 24 := by omega
    simp only [Instr.buildSlice, Sem.run_bind, Result.andThen_ok, run_und hu, run_szOf hs, Sem.run_ite, if_neg hle', Sem.run_pure, hmap]
    by_cases h0 : len * sz = 0
    · have hfl0 : Instr.fill (fun i => some (i * sz, sz)) ((Array.range (len * sz)).map (fun i => (#[] : Array Value)[i % (#[] : Array Value).size]!)) (ps.toList.map fun (i, x) => (i, a.eval x)) = some vs := by
        have hr0 : Array.range 0 = (#[] : Array Nat) := rfl
        simp only [h0, hr0, Array.map_empty] at hfl ⊢; exact hfl
      simp only [if_pos h0, Result.andThen_ok, hfl0, Sem.run_bind, newRow, run_newObj, Sem.run_pure, List.append_nil, Array.toArray_toList]
      rfl
    · simp only [if_neg h0, Sem.run_bind, hzr, Result.andThen_ok, Sem.run_pure, hzs, hfl, newRow, run_newObj, List.append_nil, Array.toArray_toList]
      rfl
  · simp only [VR]
    exact ⟨_, _, _, up_at .., rfl, rfl, Nat.le_refl _, .inr (by simp), rfl⟩

theorem st_mksl (hr : HR B m h w) (ht : VRs m ts a.tmps.toList) (hf : Fresh m n r.nx) {t el : TypeId} {sz by_ : Nat} {z : List AV} {l c : Operand} {l' c' : X} (ho : o.op = .makeSlice t l c) (hz : zeroOf P el = some z) (hu : P.underlying t = some (.slice el))
    (hs : szOf P el = some sz) (hb : byOf P el = some by_) (hzl : z.length = sz) (hl : cX l = some l') (hc : cX c = some c')
    (e : opRun call ts (.mksl el sz by_ z l' c') h n lg = some r) : Step P B m n r (execOp a.eval o) w := by
  simp only [opRun] at e
  have h1 := cX_sound ht hl
  have h2 := cX_sound ht hc
  generalize l'.ev ts = v at e h1
  generalize c'.ev ts = v2 at e h2
  cases v <;> first | (simp [A.fail] at e; done) | skip
  cases v2 <;> first | (simp [A.fail] at e; done) | skip
  rename_i k lq k2 cq
  simp only at e
  cases hcq : toNle (2 ^ 46) cq with
  | none => rw [hcq] at e; simp [A.fail] at e
  | some cn =>
    rw [hcq] at e; simp only at e
    cases hlq : toNle cn lq with
    | none => rw [hlq] at e; simp [A.fail] at e
    | some ln =>
      rw [hlq] at e; simp only at e
      cases hbb : Nat.ble (by_ * cn) (2 ^ 46) with
      | false => rw [hbb] at e; simp [A.fail] at e
      | true =>
        rw [hbb] at e; simp only at e
        obtain ⟨r1, r2, e1, e2, rfl⟩ := A.bind_inv e
        unfold newBlk at e1; cases e1
        have e3 := A.ret_inv e2; subst e3
        obtain ⟨g1, g2, rfl⟩ := toNle_some hcq
        obtain ⟨g3, g4, rfl⟩ := toNle_some hlq
        have g5 := Nat.le_of_ble_eq_true hbb
        obtain ⟨zv, hzr, hzv⟩ := run_zeroOf hz w
        obtain ⟨i, hi, hib⟩ := info_of_by hb
        have hzs : zv.cells.size = sz := by rw [← Array.length_toList, (hzv m).length, hzl]
        have hreps := VRs.reps (hzv m) cq.toNat
        have hml := made_list cq.toNat zv.cells
        rw [hzs] at hml
        rw [← hml] at hreps
        refine Step.new hr (hf n (Nat.le_refl _) (Nat.lt_succ_self n)) el sz false (rest := []) hreps el (u := .slice (some ⟨w.heap.size, 0, none⟩) lq.toNat cq.toNat) ?_ ?_
        · unfold execOp; rw [ho]
          refine run_val ?_
          have w1 : IntKind.i64.wrap lq = lq := by rw [IntKind.wrap_i64]; omega
          have w2 : IntKind.i64.wrap cq = cq := by rw [IntKind.wrap_i64]; omega
          have g6 : ((by_ : Int) * cq) ≤ 2 ^ 46 := by
            have : ((by_ * cq.toNat : Nat) : Int) ≤ ((2 ^ 46 : Nat) : Int) := by exact_mod_cast g5
            rw [Int.natCast_mul, Int.toNat_of_nonneg g1] at this
            simpa using this
          have t1 : (decide (cq < 0) || decide ((by_ : Int) * cq > 2 ^ 48)) = false := by
            simp only [Bool.or_eq_false_iff, decide_eq_false_iff_not]
            exact ⟨by omega, by omega⟩
          have t2 : ¬ lq < 0 := by omega
          have t3 : ¬ lq > cq := by omega
          simp only [Instr.makeSlice, Sem.run_bind, Result.andThen_ok, run_und hu, h1.int_inv, h2.int_inv, asInt, asIntOf, Sem.run_pure, typeInfo, run_program, hi, hib, w1, w2, t1, t2, t3, decide_false, Bool.or_false, Bool.false_eq_true, if_false, run_askRoom, run_szOf hs]
          by_cases h0 : cq.toNat * sz = 0
          · simp only [if_pos h0, Sem.run_pure, Result.andThen_ok, newRow, Sem.run_bind, run_newObj]
            have hfl0 : ((Array.range (cq.toNat * sz)).map (fun i => (#[] : Array Value)[i % (#[] : Array Value).size]!)) = ((Array.range (cq.toNat * sz)).map (fun i => zv.cells[i % sz]!)) := by
              rw [h0]; simp
            rw [hfl0, List.append_nil, Array.toArray_toList]
            rfl
          · simp only [if_neg h0, Sem.run_bind, hzr, Sem.run_pure, Result.andThen_ok, newRow, run_newObj, hzs, List.append_nil, Array.toArray_toList]
            rfl
        · simp only [VR]
          exact ⟨_, _, _, up_at .., rfl, rfl, by omega, .inr (by simp), rfl⟩

end
end Go.Proofs.YtamfoplfbidolaaGreatDoorE

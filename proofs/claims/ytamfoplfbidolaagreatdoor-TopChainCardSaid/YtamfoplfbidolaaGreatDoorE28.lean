/- The engine, part 28: interfaces' values, functions with what they hold, texts out of bytes, maps. -/
import Derived.Test.YtamfoplfbidolaaGreatDoorE11
import Derived.MapKept
import Derived.Lib.Bytealg
namespace Go.Proofs.YtamfoplfbidolaaGreatDoorE
open Go Go.RowKit Go.MapKept
set_option linter.unusedVariables false
set_option linter.unusedSimpArgs false

theorem wrMap_inv {b : Nat} {cs : List AV} {h : Mem} {n lg : Nat} {r : Rs Unit} (e : wrMap b cs h n lg = some r) :
    ∃ k, h.blk b = some k ∧ k.own = true ∧ r = ⟨(), h.set b (some { k with cells := cs }), n, bit lg b, bit lg b⟩ := by
  unfold wrMap at e
  cases hb : Nat.blt b n <;> rw [hb] at e <;> simp only at e
  · cases e
  · cases hk : h.blk b with
    | none => rw [hk] at e; cases e
    | some k =>
      rw [hk] at e; simp only at e
      cases ho : k.own <;> rw [ho] at e <;> simp only at e
      · cases e
      · cases e; exact ⟨k, rfl, ho, by rw [ho]⟩
theorem VR.map_inv {m : Mp} {b : Nat} {v : Value} (h : VR m (.map b) v) : ∃ l, m b = some l ∧ l.mp = true ∧ v = .map (some l.blk) := by simpa [VR] using h
theorem VR.nilm_inv {m : Mp} {v : Value} (h : VR m .nilm v) : v = .map none := by simpa [VR] using h

section
variable {P : Program} {B : Nat} {m : Mp} {h : Mem} {w : World} {ts : List AV} {a : Act} {n lg : Nat} {r : Rs AV} {o : Oper} {call : FuncId → List AV → A AV}

theorem st_mki (hr : HR B m h w) (ht : VRs m ts a.tmps.toList) {t : TypeId} {d : TypeDesc} {x : Operand} {x' : X} (ho : o.op = .makeInterface t x) (hu : P.underlying t = some d) (hd : ∀ ms, d ≠ .interface ms) (hx : cX x = some x')
    (e : opRun call ts (.mki t x') h n lg = some r) : Step P B m n r (execOp a.eval o) w := by
  simp only [opRun] at e
  have e1 := A.ret_inv e; subst e1
  refine Step.same hr (u := .iface t (a.eval x)) ?_ (by simp only [VR]; exact ⟨_, rfl, cX_sound ht hx⟩)
  unfold execOp; rw [ho]
  refine run_val ?_
  simp only [Instr.makeInterface, Sem.run_bind, run_und hu, Result.andThen_ok]
  cases d <;> first | rfl | exact absurd rfl (hd _)

theorem st_mkf (hr : HR B m h w) (ht : VRs m ts a.tmps.toList) {f : FuncId} {fs cs : Array Operand} {fs' cs' : List X} (ho : o.op = .makeFunc (fnOf f) fs cs) (hf : cXs fs.toList = some fs') (hc : cXs cs.toList = some cs')
    (e : opRun call ts (.mkf f fs' cs') h n lg = some r) : Step P B m n r (execOp a.eval o) w := by
  simp only [opRun] at e
  have e1 := A.ret_inv e; subst e1
  refine Step.same hr (u := .func (fnOf f) (fs.map a.eval) (cs.map a.eval)) ?_ ?_
  · unfold execOp; rw [ho]
    exact run_val rfl
  · simp only [VR]
    refine ⟨fs.toList.map a.eval, cs.toList.map a.eval, ?_, cXs_sound ht hf, cXs_sound ht hc⟩
    congr 1 <;> (apply Array.ext'; simp)
theorem rowA_find : ∀ {rows : List (TypeId × Option Nat × FuncId)} {t : TypeId} {r : Option Nat × FuncId}, rowA rows t = some r → (t, r) ∈ rows
  | [], t, r, h => by cases h
  | (u, q) :: rows, t, r, h => by
    simp only [rowA] at h
    cases hb : Nat.beq u t <;> rw [hb] at h
    · exact List.mem_cons_of_mem _ (rowA_find h)
    · cases h
      have := Nat.eq_of_beq_eq_true hb
      subst this
      exact List.mem_cons_self
theorem rowsOf_mem {P : Program} {name : String} {t : TypeId} {r : Option Nat × FuncId} (h : (t, r) ∈ rowsOf P name) : rowOf P name t = some r := by
  unfold rowsOf at h
  obtain ⟨u, _, hu⟩ := List.mem_filterMap.1 h
  obtain ⟨q, hq, e⟩ := Option.map_eq_some_iff.1 hu
  cases e
  exact hq
/-- The way to a method leads over no nil. -/
theorem ahead_none {P : Program} {name : String} {t : TypeId} {f : FuncId} (h : rowOf P name t = some (none, f)) (v : Value) (w : World) : (nilAhead (P.types.size + Made.depth) t v name).run P w = .ok (some false) w := by
  obtain ⟨k, hk⟩ : ∃ k, P.types.size + Made.depth = k + 1 := ⟨P.types.size + Made.depth - 1, by unfold Made.depth; omega⟩
  rw [hk]
  unfold rowOf at h
  split at h <;> first | (cases h; done) | skip
  rename_i i hi
  split at h <;> first | (cases h; done) | skip
  rename_i mm hm
  split at h <;> first | (cases h; done) | skip
  rename_i g pr hfn
  split at h <;> first | (cases h; done) | skip
  · rename_i hpath
    split at h <;> first | (cases h; done) | skip
    all_goals
      rename_i hd
      simp [nilAhead, Sem.run_bind, typeInfo, run_program, Result.andThen_ok, hi, Sem.run_pure, hm, hpath, followBlind, hfn, run_und hd]
  · split at h <;> first | (cases h; done) | skip
    split at h <;> first | (cases h; done) | skip
    split at h <;> first | (cases h; done) | skip
theorem ahead_some {P : Program} {name : String} {t : TypeId} {f : FuncId} {d : Nat} (h : rowOf P name t = some (some d, f)) (l : Addr) (w : World) : (nilAhead (P.types.size + Made.depth) t (.pointer (some l)) name).run P w = .ok (some false) w := by
  obtain ⟨k, hk⟩ : ∃ k, P.types.size + Made.depth = k + 1 := ⟨P.types.size + Made.depth - 1, by unfold Made.depth; omega⟩
  rw [hk]
  unfold rowOf at h
  split at h <;> first | (cases h; done) | skip
  rename_i i hi
  split at h <;> first | (cases h; done) | skip
  rename_i mm hm
  split at h <;> first | (cases h; done) | skip
  rename_i g pr hfn
  split at h <;> first | (cases h; done) | skip
  · split at h <;> cases h
  · rename_i s hpath
    split at h <;> first | (cases h; done) | skip
    rename_i fs hdr hst
    split at h <;> first | (cases h; done) | skip
    rename_i fl hfl
    split at h <;> first | (cases h; done) | skip
    rename_i el hel hsz
    simp [nilAhead, Sem.run_bind, typeInfo, run_program, Result.andThen_ok, hi, Sem.run_pure, hm, hpath, followBlind, hfn, run_und hst, hfl, hdr]
theorem st_nilq (hr : HR B m h w) (ht : VRs m ts a.tmps.toList) {x : Operand} {x' : X} (ho : o.op = .nilCheck x) (hx : cX x = some x')
    (e : opRun call ts (.nilq (rowsOf P "Put") x') h n lg = some r) : Step P B m n r (execOp a.eval o) w := by
  simp only [opRun] at e
  have h1 := cX_sound ht hx
  generalize x'.ev ts = v at e h1
  cases v <;> first | (simp [A.fail] at e; done) | skip
  rename_i f fs cs
  dsimp only at e
  have h2 := h1
  simp only [VR] at h2
  obtain ⟨y, z, hp, q1, q2⟩ := h2
  cases hmk : Nat.beq f 4294967295 with
  | false =>
    rw [hmk] at e
    have e1 := A.ret_inv e; subst e1
    rw [fnOf_f hmk] at hp
    refine Step.same hr (u := a.eval x) ?_ h1
    unfold execOp; rw [ho]; simp [hp]
  | true =>
    rw [hmk] at e
    dsimp only at e
    have hfn : fnOf f = .method "Put" := by unfold fnOf; rw [hmk]
    rcases fs with _ | ⟨g, _ | ⟨g2, gs⟩⟩
    · simp [A.fail] at e
    case cons.cons => cases g <;> simp [A.fail] at e
    cases g <;> first | (simp [A.fail] at e; done) | skip
    rename_i t v
    dsimp only at e
    simp only [VRs] at q1
    obtain ⟨u, us, rfl, hu, rfl⟩ := q1
    simp only [VR] at hu
    obtain ⟨uv, rfl, huv⟩ := hu
    rw [hfn] at hp
    have run : (nilAhead (P.types.size + Made.depth) t uv "Put").run P w = .ok (some false) w → ∀ r' : Rs AV, A.ret (.fn f [.ifc t v] cs) h n lg = some r' → Step P B m n r' (execOp a.eval o) w := fun hn r' e => by
      have e1 := A.ret_inv e; subst e1
      refine Step.same hr (u := a.eval x) ?_ h1
      unfold execOp; rw [ho]; simp [hp, run_program, hn]
    cases hrow : rowA (rowsOf P "Put") t with
    | none => rw [hrow] at e; simp [A.fail] at e
    | some q =>
      obtain ⟨d, g⟩ := q
      rw [hrow] at e
      cases d with
      | none => exact run (ahead_none (rowsOf_mem (rowA_find hrow)) uv w) _ e
      | some d =>
        cases v <;> first | (simp [A.fail] at e; done) | skip
        obtain ⟨l, hl, hm', rfl⟩ := huv.ptr_inv
        exact run (ahead_some (rowsOf_mem (rowA_find hrow)) _ w) _ e

theorem st_capn (hr : HR B m h w) (ht : VRs m ts a.tmps.toList) {c : Call} {t el : TypeId} {x : Operand} {x' : X} (ho : o.op = .call c) (hb : c.callee = .builtin .cap) (ha : c.args.toList = [x]) (h0 : c.argTypes[0]? = some t) (hu : P.underlying t = some (.slice el))
    (hx : cX x = some x') (e : opRun call ts (.capn x') h n lg = some r) : Step P B m n r (execOp a.eval o) w := by
  simp only [opRun] at e
  have h1 := cX_sound ht hx
  generalize x'.ev ts = v at e h1
  have key : ∀ k : Nat, (∃ ad l, a.eval x = .slice ad l k) → r = ⟨.int .i64 k, h, n, 0, 0⟩ → Step P B m n r (execOp a.eval o) w := by
    rintro k ⟨ad, l, hv⟩ rfl
    refine Step.same hr (u := goInt k) ?_ (by simp only [goInt]; exact VR.int _ _)
    rw [exec_builtin (P := P) ho hb, args_of ha]
    simp only [builtin, Sem.run_bind, Builtin.cap_, h0, List.map_cons, List.map_nil]
    simp [run_und hu, hv]
  cases v <;> first | (simp [A.fail] at e; done) | skip
  · rename_i b off ln c
    cases c with
    | none => exact absurd e (by simp [A.fail])
    | some c =>
      simp only [VR] at h1
      obtain ⟨l, ad, cc, _, _, hp, _, _, hcc⟩ := h1
      subst hcc
      exact key cc ⟨_, _, hp⟩ (A.ret_inv e)
  · simp only [VR] at h1
    exact key 0 ⟨_, _, h1⟩ (A.ret_inv e)

theorem st_capc (hr : HR B m h w) (ht : VRs m ts a.tmps.toList) {c : Call} {t el : TypeId} {k : Nat} {x : Operand} (ho : o.op = .call c) (hb : c.callee = .builtin .cap) (ha : c.args.toList = [x]) (h0 : c.argTypes[0]? = some t) (hu : P.underlying t = some (.array k el))
    (e : opRun call ts (.lenc k) h n lg = some r) : Step P B m n r (execOp a.eval o) w := by
  simp only [opRun] at e
  have e1 := A.ret_inv e; subst e1
  refine Step.same hr (u := goInt k) ?_ (by simp only [goInt]; exact VR.int _ _)
  rw [exec_builtin (P := P) ho hb, args_of ha]
  refine run_val ?_
  simp [Builtin.cap_, h0, run_und hu]
theorem isInt_kind {P : Program} {s : TypeId} (hs : isInt P s = true) : ∃ k, P.underlying s = some (.int k) := by
  unfold isInt at hs
  split at hs
  · exact ⟨_, by assumption⟩
  · cases hs

theorem st_i2s (hr : HR B m h w) (ht : VRs m ts a.tmps.toList) {s d : TypeId} {x : Operand} {x' : X} (ho : o.op = .convert s d x) (hs : isInt P s = true) (hd : P.underlying d = some .string) (hx : cX x = some x')
    (e : opRun call ts (.i2s x') h n lg = some r) : Step P B m n r (execOp a.eval o) w := by
  simp only [opRun] at e
  have h1 := cX_sound ht hx
  generalize x'.ev ts = v at e h1
  cases v <;> first | (simp [A.fail] at e; done) | skip
  rename_i k q
  have e1 := A.ret_inv e; subst e1
  obtain ⟨k', hk⟩ := isInt_kind hs
  refine Step.same hr (u := .string (Utf8.encode q)) ?_ (VR.str _)
  unfold execOp; rw [ho]
  refine run_val ?_
  simp only [convert, Sem.run_bind, run_und hk, run_und hd, Result.andThen_ok, h1.int_inv]
  rfl

theorem cs_next : Extern.allNextRows.lookup "internal/bytealg.CountString" = none := by kernel_rfl
theorem cs_next0 : Extern.allNextRows.lookup "" = none := by kernel_rfl
theorem cs_gen : Extern.allGenericRows.lookup "internal/bytealg.CountString" = none := by kernel_rfl
theorem cs_typ : Extern.allTypedRows.lookup "internal/bytealg.CountString" = none := by kernel_rfl
theorem cs_row : Extern.allRows.lookup "internal/bytealg.CountString" = some Extern.BytealgCount.count := by kernel_rfl
theorem cs_find {fn : Func} (h : fn.name = "internal/bytealg.CountString") : Extern.find fn = some Extern.BytealgCount.count := by
  unfold Extern.find
  simp only [h, cs_gen, cs_typ, cs_row]
  rfl
theorem cs_findNext {fn : Func} (h : fn.name = "internal/bytealg.CountString") (h0 : fn.origin = "") : Extern.findNext fn = none := by
  unfold Extern.findNext
  simp only [h, h0, cs_next, cs_next0]
  rfl
theorem st_cnt (hr : HR B m h w) (ht : VRs m ts a.tmps.toList) {c : Call} {f : FuncId} {fn : Func} {x y : Operand} {x' y' : X} (ho : o.op = .call c) (hb : c.callee = .value (.func f)) (ha : c.args.toList = [x, y]) (hf : P.funcs[f]? = some fn) (hn : (fn.body.isNone && fn.name == "internal/bytealg.CountString" && fn.origin == "") = true)
    (hx : cX x = some x') (hy : cX y = some y') (e : opRun call ts (.cnt x' y') h n lg = some r) : Step P B m n r (execOp a.eval o) w := by
  simp only [opRun] at e
  have h1 := cX_sound ht hx
  have h2 := cX_sound ht hy
  generalize x'.ev ts = v at e h1
  generalize y'.ev ts = u at e h2
  cases v <;> first | (simp [A.fail] at e; done) | skip
  cases u <;> first | (simp [A.fail] at e; done) | skip
  rename_i s k q
  cases k <;> first | (simp [A.fail] at e; done) | skip
  have e1 := A.ret_inv e; subst e1
  simp only [Bool.and_eq_true, beq_iff_eq] at hn
  obtain ⟨⟨n1, n2⟩, n3⟩ := hn
  simp only [VR] at h1 h2
  refine Step.same hr (u := .int .i64 ((s.data.toList.count q.toNat.toUInt8 : Nat) : Int)) ?_ (VR.int _ _)
  unfold execOp; rw [ho]
  simp only [resolve, hb, Act.eval, Deferred.ofValue, Sem.run_bind, Sem.run_pure, Result.andThen_ok, invoke]
  rw [show ((#[] : Array Value) ++ c.args.map a.eval) ++ #[] = #[.string s, .int .u8 q] by rw [args_of ha]; simp [h1, h2]]
  rw [run_callFunc_extern hf (by rw [n2]; rfl) n1 (cs_findNext n2 n3) (cs_find n2), Lib.run_countString]
  rfl

theorem bytes_loop {P : Program} {m : Mp} {f : Value → ByteArray → Sem (ForInStep ByteArray)} (hf : ∀ n r, f (.int .u8 n) r = pure (.yield (r.push (UInt8.ofNat n.toNat)))) : ∀ (cs : List AV) (us : List Value) (s s' : ByteArray) (w : World), VRs m cs us → bytesA cs s = some s' → (forIn us s f).run P w = .ok s' w
  | [], us, s, s', w, hv, hb => by
    rw [VRs.nil_iff.1 hv]
    cases hb
    simp
  | c :: cs, us, s, s', w, hv, hb => by
    simp only [VRs] at hv
    obtain ⟨y, zs, rfl, hy, hz⟩ := hv
    cases c <;> first | (simp [bytesA] at hb; done) | skip
    rename_i k q
    cases k <;> first | (simp [bytesA] at hb; done) | skip
    simp only [bytesA] at hb
    rw [hy.int_inv]
    simp only [List.forIn_cons, hf, Sem.run_bind, Sem.run_pure, Result.andThen_ok]
    exact bytes_loop hf cs zs _ s' w hz hb

theorem st_b2s (hr : HR B m h w) (ht : VRs m ts a.tmps.toList) {s d el : TypeId} {x : Operand} {x' : X} (ho : o.op = .convert s d x) (hs : P.underlying s = some (.slice el)) (hel : P.underlying el = some (.int .u8)) (hd : P.underlying d = some .string) (hx : cX x = some x')
    (e : opRun call ts (.b2s x') h n lg = some r) : Step P B m n r (execOp a.eval o) w := by
  simp only [opRun] at e
  have h1 := cX_sound ht hx
  generalize x'.ev ts = v at e h1
  have conv : ∀ ad l c, a.eval x = .slice ad l c → (execOp a.eval o).run P w = (do pure (.value (← Conv.bytesToString (.slice ad l c))) : Sem Next).run P w := by
    intro ad l c hv
    unfold execOp; rw [ho]
    simp only [convert, Sem.run_bind, run_und hs, run_und hd, Result.andThen_ok, hv, run_und hel]
  cases v <;> first | (simp [A.fail] at e; done) | skip
  · rename_i b off ln c
    simp only [VR] at h1
    obtain ⟨l, ad, cc, hl, hm, hp, hle, had, hcap⟩ := h1
    obtain ⟨r1, r2, e1, e2, rfl⟩ := A.bind_inv e
    obtain ⟨k, hk, rfl⟩ := rdBlk_inv e1
    dsimp only at e2
    cases hsb : sub k.cells off ln with
    | none => rw [hsb] at e2; simp [A.fail] at e2
    | some cs =>
      rw [hsb] at e2
      obtain ⟨v, hv, rfl⟩ := A.ofOpt_inv e2
      obtain ⟨s', hs', rfl⟩ := Option.map_eq_some_iff.1 hv
      refine Step.same hr (u := .string s') ?_ (VR.str _)
      rw [conv _ _ _ hp]
      refine run_val ?_
      have hread : ∃ us : List Value, VRs m cs us ∧ (loadCells ad ln).run P w = .ok us.toArray w := by
        rcases had with h0 | rfl
        · have : ln = 0 := by omega
          subst this
          obtain ⟨_, rfl⟩ := sub_some hsb
          exact ⟨[], by simp only [List.take_zero]; exact VRs.nil, run_loadCells_list (P := P) w ad [] (by simp)⟩
        · obtain ⟨vs, g1, g2, g3⟩ := (hr.at hk hl hm).readsSub hsb
          have := run_loadCells_list (P := P) w ⟨l.blk, l.base + off, none⟩ vs g3
          rw [g2] at this
          exact ⟨vs, g1, this⟩
      obtain ⟨us, hus, hld⟩ := hread
      simp only [Conv.bytesToString, Sem.run_bind, hld, Result.andThen_ok, List.forIn_toArray]
      rw [bytes_loop (P := P) (fun _ _ => rfl) cs us .empty s' w hus hs']
      rfl
  · simp only [VR] at h1
    have e1 := A.ret_inv e; subst e1
    refine Step.same hr (u := .string .empty) ?_ (VR.str _)
    rw [conv _ _ _ h1]
    rfl

/-! ### Maps -/
theorem HR.newM {B : Nat} {m : Mp} {h : Mem} {w : World} (r : HR B m h w) {n : Nat} (hn : m n = none) :
    HR B (m.up n ⟨w.heap.size, 0, 0, 0, true⟩) (h.set n (some ⟨0, 0, true, false, [.int .i64 0]⟩)) (w.alloc (.map #[] 0)) := by
  have hs : (w.alloc (.map #[] 0)).heap.size = w.heap.size + 1 := by show (w.heap.push _).size = _; rw [Array.size_push]
  have hat : (w.alloc (.map #[] 0)).heap[w.heap.size]? = some (.map #[] 0) := (heap_alloc w _).1
  have hold : ∀ i, i < w.heap.size → (w.alloc (.map #[] 0)).heap[i]? = w.heap[i]? := (heap_alloc w _).2
  have r0 : HR B m h (w.alloc (.map #[] 0)) := ⟨by rw [hs]; have := r.base; omega, fun b k hb => by
    obtain ⟨l, hl, hh⟩ := r.held b k hb
    exact ⟨l, hl, hh.same (hold _ (r.lt hb hl))⟩, r.sep⟩
  refine r0.add n ⟨0, 0, true, false, [.int .i64 0]⟩ ⟨w.heap.size, 0, 0, 0, true⟩ (.inl hn) (HeldM.h ⟨⟨#[], 0, hat, VRs.cons_iff.2 ⟨VR.int _ _, VRs.nil⟩⟩, r.base, rfl, rfl⟩ rfl) ?_
  intro b k l' hne hb hl'
  have := r.lt hb hl'
  show l'.blk ≠ w.heap.size
  omega

theorem st_mkm (hr : HR B m h w) (hf : Fresh m n r.nx) {t k el : TypeId} (ho : o.op = .makeMap t none) (hu : P.underlying t = some (.map k el))
    (e : opRun call ts .mkm h n lg = some r) : Step P B m n r (execOp a.eval o) w := by
  simp only [opRun] at e
  obtain ⟨r1, r2, e1, e2, rfl⟩ := A.bind_inv e
  unfold newBlk at e1; cases e1
  have e3 := A.ret_inv e2; subst e3
  have hn := hf n (Nat.le_refl _) (Nat.lt_succ_self n)
  refine ⟨_, .map (some w.heap.size), w.alloc (.map #[] 0), .inl ?_, Ext.up m n _ hn, hr.newM hn, ?_, (Below.refl B w).alloc hr.base _, Nat.le_succ n⟩
  · unfold execOp; rw [ho]
    refine run_val ?_
    simp [Instr.makeMap]
  · simp only [VR]; exact ⟨_, up_at .., rfl, rfl⟩

theorem kvs_length : ∀ es : List MapEntry, (kvs es).length = 3 * es.length
  | [] => rfl
  | e :: es => by simp only [kvs, List.length_cons, kvs_length es]; omega
theorem VRs.of_kvs {m : Mp} (es : List MapEntry) (cs : List AV) (h : VRs m cs (kvs es)) : cs.length = 3 * es.length := by have e := VRs.length h; rw [kvs_length] at e; omega
theorem VRs.uncons {m : Mp} {cs : List AV} {y : Value} {ys : List Value} (h : VRs m cs (y :: ys)) : ∃ c cs', cs = c :: cs' ∧ VR m c y ∧ VRs m cs' ys := by
  cases cs with
  | nil => simp [VRs] at h
  | cons c cs => exact ⟨c, cs, rfl, (VRs.cons_iff.1 h).1, (VRs.cons_iff.1 h).2⟩

theorem sameNow_run {P : Program} {q : EqK} {t : TypeId} {d : TypeDesc} {D : Nat} {m : Mp} {x y : AV} {u v : Value} {b b' : Bool} (hq : eqkOf P (D + 1) t = some q) (hd : P.underlying t = some d) (h : eqA q x y = some b) (hx : VR m x u) (hy : VR m y v)
    (hn : Instr.sameNow d u v = some b') : b = b' := by
  unfold eqkOf at hq
  rw [hd] at hq
  cases d <;> first | (simp [Instr.sameNow] at hn; done) | skip
  · simp only at hq; cases hq
    simp only [eqA] at h
    unfold eqB at h
    split at h <;> first | (cases h; done) | skip
    rw [hx.bool_inv, hy.bool_inv] at hn
    simp only [Instr.sameNow] at hn
    rw [h] at hn; exact Option.some.inj hn
  · simp only at hq; cases hq
    simp only [eqA] at h
    unfold eqI at h
    split at h <;> first | (cases h; done) | skip
    split at h <;> first | (cases h; done) | skip
    rename_i hkk
    have hkk' := of_decide_eq_true hkk
    subst hkk'
    rw [hx.int_inv, hy.int_inv] at hn
    simp only [Instr.sameNow, if_true] at hn
    rw [h] at hn; exact Option.some.inj hn
  · simp only at hq; cases hq
    simp only [eqA] at h
    unfold eqS at h
    split at h <;> first | (cases h; done) | skip
    rw [hx.str_inv, hy.str_inv] at hn
    simp only [Instr.sameNow] at hn
    rw [h] at hn; exact Option.some.inj hn

/-- What is found, in the model's words. -/
def fndR (o : Option (Nat × AV)) (us : Option (Nat × Value)) (m : Mp) (es : List MapEntry) (i0 k0 : Nat) : Prop := match o, us with
  | none, none => True
  | some (j, v), some (i, u) => j = i0 + 3 * (i - k0) ∧ k0 ≤ i ∧ VR m v u ∧ ∃ e, es[i - k0]? = some e ∧ u = e.val
  | _, _ => False
theorem fndR.up {o : Option (Nat × AV)} {us : Option (Nat × Value)} {m : Mp} {e : MapEntry} {es : List MapEntry} {i0 k0 : Nat} (h : fndR o us m es (i0 + 3) (k0 + 1)) : fndR o us m (e :: es) i0 k0 := by
  unfold fndR at h ⊢
  rcases o with _ | ⟨j, v⟩ <;> rcases us with _ | ⟨i, u⟩ <;> simp only at h ⊢
  obtain ⟨h1, h2, h3, e', h4, h5⟩ := h
  refine ⟨by omega, by omega, h3, e', ?_, h5⟩
  rw [show i - k0 = (i - (k0 + 1)) + 1 by omega]
  simpa using h4

theorem findNow_run {P : Program} {q : EqK} {t : TypeId} {d : TypeDesc} {D : Nat} {m : Mp} (hq : eqkOf P (D + 1) t = some q) (hd : P.underlying t = some d) {x : AV} {u : Value} (hx : VR m x u) :
    ∀ (es : List MapEntry) (cs : List AV) (i0 k0 : Nat) (res : Option (Nat × AV)) (rs : Option (Nat × Value)), VRs m cs (kvs es) → findA q x cs i0 = some res → Instr.findNow d u es k0 = some rs → fndR res rs m es i0 k0
  | [], cs, i0, k0, res, rs, hv, hf, hn => by
    have : cs = [] := by cases cs with
      | nil => rfl
      | cons c cs => simp [kvs, VRs] at hv
    subst this
    simp only [findA] at hf; cases hf
    simp only [Instr.findNow] at hn; cases hn
    trivial
  | e :: es, cs, i0, k0, res, rs, hv, hf, hn => by
    simp only [kvs] at hv
    obtain ⟨c, cs, rfl, h1, hv⟩ := hv.uncons
    obtain ⟨d', cs, rfl, h2, hv⟩ := hv.uncons
    obtain ⟨s', cs, rfl, _, h3⟩ := hv.uncons
    · simp only [findA] at hf
      · simp only [Instr.findNow] at hn
        cases hs : Instr.sameNow d u e.key with
        | none => rw [hs] at hn; cases hn
        | some b' =>
          rw [hs] at hn
          cases hb : eqA q x c with
          | none => rw [hb] at hf; cases hf
          | some b =>
            have := sameNow_run hq hd hb hx h1 hs
            subst this
            rw [hb] at hf
            cases b with
            | true => cases hf; cases hn; exact ⟨by omega, Nat.le_refl _, h2, e, by simp, rfl⟩
            | false => exact (findNow_run hq hd hx es cs (i0 + 3) (k0 + 1) res rs h3 hf hn).up

theorem findAsk_run {P : Program} {q : EqK} {t : TypeId} {m : Mp} (hq : eqkOf P 8 t = some q) {x : AV} {u : Value} (hx : VR m x u) (w : World) :
    ∀ (es : List MapEntry) (cs : List AV) (i0 k0 : Nat) (res : Option (Nat × AV)), VRs m cs (kvs es) → findA q x cs i0 = some res → ∃ rs, (Instr.findAsking t u es k0).run P w = .ok rs w ∧ fndR res rs m es i0 k0
  | [], cs, i0, k0, res, hv, hf => by
    have : cs = [] := by cases cs with
      | nil => rfl
      | cons c cs => simp [kvs, VRs] at hv
    subst this
    simp only [findA] at hf; cases hf
    exact ⟨none, rfl, trivial⟩
  | e :: es, cs, i0, k0, res, hv, hf => by
    simp only [kvs] at hv
    obtain ⟨c, cs, rfl, h1, hv⟩ := hv.uncons
    obtain ⟨d', cs, rfl, h2, hv⟩ := hv.uncons
    obtain ⟨s', cs, rfl, _, h3⟩ := hv.uncons
    · simp only [findA] at hf
      · cases hb : eqA q x c with
        | none => rw [hb] at hf; cases hf
        | some b =>
          have hrun := eq_run w 8 t q _ _ _ _ b hq hb hx h1 Op.maxDepth (by unfold Op.maxDepth; omega)
          rw [hb] at hf
          cases b with
          | true =>
            cases hf
            exact ⟨some (k0, e.val), by simp [Instr.findAsking, Op.equal, hrun], ⟨by omega, Nat.le_refl _, h2, e, by simp, rfl⟩⟩
          | false =>
            obtain ⟨rs, h4, h5⟩ := findAsk_run hq hx w es cs (i0 + 3) (k0 + 1) res h3 hf
            exact ⟨rs, by simp [Instr.findAsking, Op.equal, hrun, h4], h5.up⟩

theorem findKey_run {P : Program} {q : EqK} {t : TypeId} {m : Mp} (hq : eqkOf P 8 t = some q) {x : AV} {u : Value} (hx : VR m x u) (w : World) (es : List MapEntry) (cs : List AV) (res : Option (Nat × AV)) (hv : VRs m cs (kvs es)) (hf : findA q x cs 0 = some res) :
    ∃ rs, (Instr.findKey t u es).run P w = .ok rs w ∧ fndR res rs m es 0 0 := by
  obtain ⟨d, hd, _⟩ := eqkOf_agg hq
  cases hn : Instr.findNow d u es 0 with
  | some rs => exact ⟨rs, run_findKey hd hn, findNow_run (D := 7) hq hd hx es cs 0 0 res rs hv hf hn⟩
  | none =>
    obtain ⟨rs, h1, h2⟩ := findAsk_run hq hx w es cs 0 0 res hv hf
    exact ⟨rs, by simp [Instr.findKey, run_und hd, hn, h1], h2⟩

theorem checkField {m : Mp} {em : Bool} {D d : Nat} {cs : List AV} {us : List Value} (hx : VRs m cs us)
    (ih : ∀ (t : TypeId) (k : EqK) (x : AV) (u : Value), eqkOf P d t = some k → keyA k x = true → VR m x u → (Instr.checkKey em D t u).run P w = .ok () w)
    (sc : ∀ (t : TypeId) (k : EqK) (x : AV) (u : Value), eqkOf P 1 t = some k → (∀ fs, k ≠ .st fs) → keyA k x = true → VR m x u → (Instr.checkKey em D t u).run P w = .ok () w)
    {f : Field} {fs : List Field} {ks : List (Nat × Nat × EqK)} (hk : eqkF P (eqkOf P d) (f :: fs) = some ks) (h : keyFs ks cs = true) :
    ∃ ks', f.name ≠ "_" ∧ eqkF P (eqkOf P d) fs = some ks' ∧ keyFs ks' cs = true ∧ ∃ u, (part f.type us.toArray f.offset).run P w = .ok u w ∧ (Instr.checkKey em D f.type u).run P w = .ok () w := by
  simp only [eqkF] at hk
  split at hk <;> first | (cases hk; done) | skip
  rename_i q n ks' hname hu hn hks
  have hne : f.name ≠ "_" := by simpa using hname
  have main : ∀ (k : EqK), stK k = aggD q → (∀ (x : AV) (u : Value), keyA k x = true → VR m x u → (Instr.checkKey em D f.type u).run P w = .ok () w) → keyFs ((f.offset, n, k) :: ks') cs = true →
      ∃ ks', f.name ≠ "_" ∧ eqkF P (eqkOf P d) fs = some ks' ∧ keyFs ks' cs = true ∧ ∃ u, (part f.type us.toArray f.offset).run P w = .ok u w ∧ (Instr.checkKey em D f.type u).run P w = .ok () w := by
    intro k hkq hrun h
    simp only [keyFs, Bool.and_eq_true] at h
    obtain ⟨h1, h2⟩ := h
    cases hp : partK k cs f.offset n with
    | none => rw [hp] at h1; cases h1
    | some x =>
      rw [hp] at h1
      obtain ⟨u, pu, ru⟩ := partK_run hu hn hkq hp hx w
      exact ⟨ks', hne, hks, h2, u, pu, hrun x u h1 ru⟩
  split at hk <;> first | (cases hk; done) | skip
  · cases hk
    exact main .b rfl (fun x u a b => sc f.type .b x u (by simp [eqkOf, hu]) (fun _ e => by cases e) a b) h
  · cases hk
    exact main .i rfl (fun x u a b => sc f.type .i x u (by simp [eqkOf, hu]) (fun _ e => by cases e) a b) h
  · cases hk
    exact main .s rfl (fun x u a b => sc f.type .s x u (by simp [eqkOf, hu]) (fun _ e => by cases e) a b) h
  · split at hk <;> first | (cases hk; done) | skip
    rename_i kk hrec
    cases hk
    exact main (.st kk) rfl (fun x u a b => ih f.type (.st kk) x u hrec a b) h

theorem check_scal {m : Mp} {em : Bool} {d D : Nat} {t : TypeId} {k : EqK} {x : AV} {u : Value} (hk : eqkOf P (d + 1) t = some k) (hs : ∀ fs, k ≠ .st fs) (h : keyA k x = true) (hx : VR m x u) : (Instr.checkKey em (D + 1) t u).run P w = .ok () w := by
  unfold eqkOf at hk
  split at hk <;> first | (cases hk; done) | skip
  · rename_i hu; cases hk
    cases x <;> simp [keyA] at h
    rw [hx.bool_inv]
    simp [Instr.checkKey, run_und hu]
  · rename_i q hu; cases hk
    cases x <;> simp [keyA] at h
    rw [hx.int_inv]
    simp [Instr.checkKey, run_und hu]
  · rename_i hu; cases hk
    cases x <;> simp [keyA] at h
    rw [hx.str_inv]
    simp [Instr.checkKey, run_und hu]
  · cases hk; cases x <;> simp [keyA] at h
  · cases hk; cases x <;> simp [keyA] at h
  · cases hk; cases x <;> simp [keyA] at h
  · split at hk
    · cases hk
    · obtain ⟨fs', _, rfl⟩ := Option.map_eq_some_iff.1 hk
      exact absurd rfl (hs fs')
  · split at hk <;> first | (cases hk; done) | skip
    cases hk
    exact absurd rfl (hs _)

theorem check_run {m : Mp} {em : Bool} : ∀ (d : Nat) (t : TypeId) (k : EqK) (x : AV) (u : Value), eqkOf P d t = some k → keyA k x = true → VR m x u → ∀ D, d < D → (Instr.checkKey em D t u).run P w = .ok () w
  | 0, t, k, x, u, hk, _, _, _, _ => by cases hk
  | d + 1, t, k, x, u, hk, h, hx, D, hD => by
    obtain ⟨D, rfl⟩ : ∃ e, D = e + 1 + 1 := ⟨D - 2, by omega⟩
    by_cases hs : ∀ fs, k ≠ .st fs
    · exact check_scal hk hs h hx
    · have hs' : ∃ fs, k = .st fs := by
        cases k <;> first | exact ⟨_, rfl⟩ | exact (hs (fun _ e => by cases e)).elim
      obtain ⟨ks, rfl⟩ := hs'
      cases x <;> simp only [keyA] at h <;> first | (cases h; done) | skip
      rename_i cs
      obtain ⟨us, rfl, hxs⟩ := hx.agg_inv
      clear hx hs
      unfold eqkOf at hk
      split at hk <;> first | (cases hk; done) | skip
      · rename_i fs hu
        split at hk <;> first | (cases hk; done) | skip
        rename_i hst
        obtain ⟨ks', hks, e⟩ := Option.map_eq_some_iff.1 hk
        have e' : ks' = ks := by injection e
        subst e'
        unfold Instr.checkKey
        simp only [Sem.run_bind, run_und hu, Result.andThen_ok]
        rw [← Array.forIn_toList]
        clear hu hk e
        generalize fs.toList = L at hks
        induction L generalizing ks' with
        | nil => simp
        | cons f L ihL =>
          obtain ⟨ks2, hne, hk2, hf2, u, pu, hc⟩ := checkField (w := w) (em := em) hxs (fun t k x u e a b => check_run d t k x u e a b (D + 1) (by omega)) (fun t k x u e hs a b => check_scal e hs a b) hks h
          simp only [List.forIn_cons, Sem.run_bind, hne, ne_eq, not_false_eq_true, if_true, Result.andThen_ok, pu, hc, Sem.run_pure]
          exact ihL ks2 hf2 hk2
      · rename_i len e hu
        split at hk <;> first | (cases hk; done) | skip
        rename_i k n hke hn
        have e' : ks = (List.range len).map fun i => (i * n, n, k) := by injection hk with hk; injection hk with hk; exact hk.symm
        subst e'
        obtain ⟨q, hq, hkq⟩ := eqkOf_agg hke
        unfold Instr.checkKey
        simp only [Sem.run_bind, run_und hu, Result.andThen_ok]
        simp only [Std.Legacy.Range.forIn_eq_forIn_range', Std.Legacy.Range.size, Nat.sub_zero, Nat.add_one_sub_one, Nat.div_one]
        rw [List.range_eq_range'] at h
        have each := fun x u a b => check_run (m := m) (em := em) d e k x u hke a b (D + 1) (by omega)
        clear hu
        generalize List.range' 0 len = is at h
        induction is with
        | nil => simp
        | cons i is ihL =>
          simp only [List.map_cons, keyFs, Bool.and_eq_true] at h
          obtain ⟨h1, h2⟩ := h
          cases hp : partK k cs (i * n) n with
          | none => rw [hp] at h1; cases h1
          | some x =>
            rw [hp] at h1
            obtain ⟨u, pu, ru⟩ := partT_run hq hn hkq hp hxs w
            simp only [List.forIn_cons, Sem.run_bind, run_szOf hn, Result.andThen_ok, pu, each x u h1 ru, Sem.run_pure]
            exact ihL h2

theorem kvs_get : ∀ (es : List MapEntry) (i : Nat) (e : MapEntry), es[i]? = some e → (kvs es)[3 * i]? = some e.key ∧ (kvs es)[3 * i + 1]? = some e.val ∧ (kvs es)[3 * i + 2]? = some (.int .i64 e.born)
  | [], i, e, h => by simp at h
  | x :: es, 0, e, h => by simp at h; subst h; exact ⟨rfl, rfl, rfl⟩
  | x :: es, i + 1, e, h => by
    simp at h
    have := kvs_get es i e h
    simp only [kvs, show 3 * (i + 1) = 3 * i + 1 + 1 + 1 by omega, List.getElem?_cons_succ]
    exact this
theorem kvs_append : ∀ (a b : List MapEntry), kvs (a ++ b) = kvs a ++ kvs b
  | [], b => rfl
  | x :: a, b => by simp only [List.cons_append, kvs, kvs_append a b]
theorem kvs_set : ∀ (es : List MapEntry) (i : Nat) (e e' : MapEntry), es[i]? = some e → e'.key = e.key → e'.born = e.born → kvs (es.set i e') = (kvs es).set (3 * i + 1) e'.val
  | [], i, e, e', h, _, _ => by simp at h
  | x :: es, 0, e, e', h, hk, hb => by simp at h; subst h; simp [kvs, hk, hb]
  | x :: es, i + 1, e, e', h, hk, hb => by
    simp at h
    simp only [List.set_cons_succ, kvs, show 3 * (i + 1) + 1 = (3 * i + 1) + 1 + 1 + 1 by omega]
    rw [kvs_set es i e e' h hk hb]
theorem kvs_erase : ∀ (es : List MapEntry) (i : Nat), i < es.length → kvs (es.eraseIdx i) = (kvs es).take (3 * i) ++ (kvs es).drop (3 * i + 3)
  | [], i, h => by simp at h
  | x :: es, 0, h => by simp [kvs]
  | x :: es, i + 1, h => by
    simp only [List.eraseIdx_cons_succ, kvs, show 3 * (i + 1) = 3 * i + 1 + 1 + 1 by omega, show 3 * i + 1 + 1 + 1 + 3 = (3 * i + 3) + 1 + 1 + 1 by omega, List.take_succ_cons, List.drop_succ_cons, List.cons_append]
    rw [kvs_erase es i (by simpa using h)]

theorem st_mlen (hr : HR B m h w) (ht : VRs m ts a.tmps.toList) {c : Call} {t k el : TypeId} {x : Operand} {x' : X} (ho : o.op = .call c) (hb : c.callee = .builtin .len) (ha : c.args.toList = [x]) (h0 : c.argTypes[0]? = some t) (hu : P.underlying t = some (.map k el))
    (hx : cX x = some x') (e : opRun call ts (.mlen x') h n lg = some r) : Step P B m n r (execOp a.eval o) w := by
  simp only [opRun] at e
  have h1 := cX_sound ht hx
  generalize x'.ev ts = v at e h1
  cases v <;> first | (simp [A.fail] at e; done) | skip
  · rename_i b
    obtain ⟨l, hl, hm, hp⟩ := h1.map_inv
    obtain ⟨r1, r2, e1, e2, rfl⟩ := A.bind_inv e
    obtain ⟨q, hq, rfl⟩ := rdBlk_inv e1
    have e3 := A.ret_inv e2; subst e3
    obtain ⟨⟨es, ck, g1, g2⟩, _, _, _⟩ := hr.atM hq hl hm
    have hlen := g2.length
    rw [List.length_cons, kvs_length] at hlen
    refine Step.same hr (u := goInt es.size) ?_ ?_
    · rw [exec_builtin (P := P) ho hb, args_of ha]
      refine run_val ?_
      simp [Builtin.len_, h0, run_und hu, hp, MapKept.run_getObj_map g1]
    · rw [show q.cells.length / 3 = es.size by rw [Array.length_toList] at hlen; omega]
      exact VR.int _ _
  · have hp := h1.nilm_inv
    have e3 := A.ret_inv e; subst e3
    refine Step.same hr (u := goInt 0) ?_ (by simp only [goInt]; exact VR.int _ _)
    rw [exec_builtin (P := P) ho hb, args_of ha]
    refine run_val ?_
    simp [Builtin.len_, h0, run_und hu, hp]

theorem zeroAV_run {t : TypeId} {z : AV} (hz : zeroAV P t = some z) (w : World) : ∃ v, (zeroValue t).run P w = .ok v w ∧ ∀ m, VR m z v := by
  unfold zeroAV at hz
  obtain ⟨i, hi, h⟩ := Option.bind_eq_some_iff.1 hz
  obtain ⟨v, hv, h⟩ := Option.bind_eq_some_iff.1 h
  exact ⟨v, by simp [zeroValue, typeInfo, hi, hv], fun m => ofVal_sound m h⟩

theorem okA_vr {m : Mp} (ok : Bool) (u : AV) (uv : Value) (b : Bool) (hv : VR m u uv) : VR m (okA ok u b) (if ok = true then .tuple #[uv, .bool b] else uv) := by
  cases ok with
  | true => simp only [if_true, okA, VR]; exact ⟨[uv, .bool b], rfl, VRs.cons_iff.2 ⟨hv, VRs.cons_iff.2 ⟨VR.bool b, VRs.nil⟩⟩⟩
  | false => simpa [okA] using hv
theorem st_mget (hr : HR B m h w) (ht : VRs m ts a.tmps.toList) {t k el : TypeId} {q : EqK} {z : AV} {ok : Bool} {x i : Operand} {x' i' : X} (ho : o.op = .lookup t x i ok) (hu : P.underlying t = some (.map k el)) (hq : eqkOf P 8 k = some q) (hz : zeroAV P el = some z)
    (hx : cX x = some x') (hi : cX i = some i') (e : opRun call ts (.mget q z ok x' i') h n lg = some r) : Step P B m n r (execOp a.eval o) w := by
  simp only [opRun] at e
  have h1 := cX_sound ht hx
  have h2 := cX_sound ht hi
  generalize x'.ev ts = v at e h1
  generalize i'.ev ts = y at e h2
  cases hk : keyA q y with
  | false => rw [hk] at e; simp [A.fail] at e
  | true =>
    rw [hk] at e
    simp only at e
    have hck := fun em => check_run (P := P) (w := w) (em := em) 8 k q y _ hq hk h2 10000 (by omega)
    obtain ⟨zv, hzr, hzv⟩ := zeroAV_run hz w
    have fin := fun u uv b => okA_vr (m := m) ok u uv b
    cases v <;> first | (simp [A.fail] at e; done) | skip
    · rename_i b
      obtain ⟨l, hl, hm, hp⟩ := h1.map_inv
      obtain ⟨r1, r2, e1, e2, rfl⟩ := A.bind_inv e
      obtain ⟨K, hK, rfl⟩ := rdBlk_inv e1
      obtain ⟨⟨es, ck, g1, g2⟩, _, _, _⟩ := hr.atM hK hl hm
      obtain ⟨c0, cs, hcs, gc, g2⟩ := g2.uncons
      dsimp only at e2
      rw [hcs] at e2
      simp only [List.drop_succ_cons, List.drop_zero] at e2
      cases hf : findA q y cs 0 with
      | none => rw [hf] at e2; simp [A.fail] at e2
      | some res =>
        rw [hf] at e2
        obtain ⟨rs, hrs, hfn⟩ := findKey_run hq h2 w es.toList cs res g2 hf
        have run : ∀ (uv : Value) (b : Bool), (match rs with | some (_, v) => (v, true) | none => (zv, false)) = (uv, b) → (execOp a.eval o).run P w = .ok (.value (if ok = true then .tuple #[uv, .bool b] else uv)) w := by
          intro uv b hrv
          unfold execOp; rw [ho]
          refine run_val ?_
          simp only [Instr.lookup, Sem.run_bind, run_und hu, Result.andThen_ok, hp, MapKept.run_getObj_map g1, Sem.run_pure, hck, hrs]
          rcases rs with _ | ⟨i, v⟩
          · cases hrv
            simp only [Sem.run_bind, hzr, Result.andThen_ok, Sem.run_pure]
          · cases hrv
            cases ok <;> rfl
        rcases res with _ | ⟨j, v⟩
        · have e3 := A.ret_inv e2; subst e3
          rcases rs with _ | ⟨i, v⟩
          · exact Step.same hr (run _ _ rfl) (fin _ _ _ (hzv m))
          · exact hfn.elim
        · have e3 := A.ret_inv e2; subst e3
          rcases rs with _ | ⟨i, u⟩
          · exact hfn.elim
          · exact Step.same hr (run _ _ rfl) (fin _ _ _ hfn.2.2.1)
    · have hp := h1.nilm_inv
      have e3 := A.ret_inv e; subst e3
      refine Step.same hr ?_ (fin _ _ _ (hzv m))
      unfold execOp; rw [ho]
      refine run_val ?_
      have hnil : (Instr.findKey k (a.eval i) []).run P w = .ok none w := by
        obtain ⟨d, hd, _⟩ := eqkOf_agg hq
        exact run_findKey hd rfl
      simp only [Instr.lookup, Sem.run_bind, run_und hu, Result.andThen_ok, hp, Sem.run_pure, hck, hnil, hzr]

/-- A map's entries anew. -/
theorem HR.setM {B : Nat} {m : Mp} {h : Mem} {w : World} (r : HR B m h w) {b : Nat} {k : Blk} {l : Loc} (hb : h.blk b = some k) (hl : m b = some l) (hm : l.mp = true) {es es' : Array MapEntry} {ck ck' : Nat} (hat : w.heap[l.blk]? = some (.map es ck)) {cs : List AV} (hv : VRs m cs (.int .i64 ck' :: kvs es'.toList)) :
    HR B m (h.set b (some { k with cells := cs })) { w with heap := w.heap.setIfInBounds l.blk (.map es' ck') } ∧ Below B w { w with heap := w.heap.setIfInBounds l.blk (.map es' ck') } := by
  have hh := r.atM hb hl hm
  obtain ⟨_, own, ow, gr⟩ := hh
  have hset := heap_set (o' := .map es' ck') hat
  have r1 : HR B m (h.set b none) { w with heap := w.heap.setIfInBounds l.blk (.map es' ck') } := by
    refine (r.drop b).poke l.blk (by simp) (fun i hi _ => hset.2 i hi) ?_
    intro b' k' l' hb' hl'
    rw [Mem.blk_set] at hb'
    split at hb'
    · cases hb'
    · rename_i hne
      exact (r.sep b b' k k' l l' (Ne.symm hne) hb ow hb' hl hl').symm
  have hup := Mp.up_same m b l hl
  have r2 := r1.add b { k with cells := cs } l (.inr hl) (HeldM.h ⟨⟨es', ck', hset.1, by rw [hup]; exact hv⟩, own, ow, gr⟩ hm) (fun b' k' l' hne hb' hl' => by
    rw [Mem.blk_set_ne _ _ _ _ hne] at hb'
    exact (r.sep b b' k k' l l' (Ne.symm hne) hb ow hb' hl hl').symm)
  rw [hup] at r2
  refine ⟨r2.blk (fun j => by rw [Mem.blk_set, Mem.blk_set, Mem.blk_set]; split <;> rfl), ?_⟩
  exact ⟨rfl, rfl, rfl, by simp, fun i hi => hset.2 i (by omega)⟩

theorem sameC_bits {m : Mp} {x y : AV} {u v : Value} (h : sameC x y = true) (hx : VR m x u) (hy : VR m y v) (D : Nat) : Instr.sameBits D u v = true := by
  unfold sameC at h
  split at h
  · rw [hx.bool_inv, hy.bool_inv]
    cases D <;> simpa [Instr.sameBits] using h
  · rw [hx.int_inv, hy.int_inv]
    simp only [Bool.and_eq_true, decide_eq_true_eq, beq_iff_eq] at h
    cases D <;> simp [Instr.sameBits, h.1, h.2]
  · rw [hx.str_inv, hy.str_inv]
    cases D <;> simpa [Instr.sameBits] using h
  · cases h
theorem sameL_bits {m : Mp} {D : Nat} : ∀ {xs ys : List AV} {us vs : List Value}, sameL xs ys = true → VRs m xs us → VRs m ys vs → us.length = vs.length ∧ (us.zip vs).all (fun (x, y) => Instr.sameBits D x y) = true
  | [], [], us, vs, _, hx, hy => by rw [VRs.nil_iff.1 hx, VRs.nil_iff.1 hy]; simp
  | [], y :: ys, us, vs, h, _, _ => by simp [sameL] at h
  | x :: xs, [], us, vs, h, _, _ => by simp [sameL] at h
  | x :: xs, y :: ys, us, vs, h, hx, hy => by
    simp only [sameL, Bool.and_eq_true] at h
    simp only [VRs] at hx hy
    obtain ⟨u, us, rfl, hx1, hx2⟩ := hx
    obtain ⟨v, vs, rfl, hy1, hy2⟩ := hy
    obtain ⟨g1, g2⟩ := sameL_bits h.2 hx2 hy2
    exact ⟨by simp [g1], by simp only [List.zip_cons_cons, List.all_cons, sameC_bits h.1 hx1 hy1 D, Bool.true_and]; exact g2⟩
theorem sameA_bits {m : Mp} {x y : AV} {u v : Value} (h : sameA x y = true) (hx : VR m x u) (hy : VR m y v) (D : Nat) : Instr.sameBits (D + 1) u v = true := by
  unfold sameA at h
  split at h
  · obtain ⟨us, rfl, hx'⟩ := hx.agg_inv
    obtain ⟨vs, rfl, hy'⟩ := hy.agg_inv
    obtain ⟨g1, g2⟩ := sameL_bits (D := D) h hx' hy'
    simp only [Instr.sameBits, List.size_toArray, g1, beq_self_eq_true, Bool.true_and]
    exact g2
  · exact sameC_bits h hx hy _

theorem sameC_eq {m : Mp} {x y : AV} {u v : Value} (h : sameC x y = true) (hx : VR m x u) (hy : VR m y v) : u = v := by
  unfold sameC at h
  split at h
  · rw [hx.bool_inv, hy.bool_inv]
    simpa using h
  · rw [hx.int_inv, hy.int_inv]
    simp only [Bool.and_eq_true, decide_eq_true_eq, beq_iff_eq] at h
    rw [h.1, h.2]
  · rw [hx.str_inv, hy.str_inv]
    rw [(bytes_beq _ _).1 h]
  · cases h
theorem sameL_eq {m : Mp} : ∀ {xs ys : List AV} {us vs : List Value}, sameL xs ys = true → VRs m xs us → VRs m ys vs → us = vs
  | [], [], us, vs, _, hx, hy => by rw [VRs.nil_iff.1 hx, VRs.nil_iff.1 hy]
  | [], y :: ys, us, vs, h, _, _ => by simp [sameL] at h
  | x :: xs, [], us, vs, h, _, _ => by simp [sameL] at h
  | x :: xs, y :: ys, us, vs, h, hx, hy => by
    simp only [sameL, Bool.and_eq_true] at h
    simp only [VRs] at hx hy
    obtain ⟨u, us, rfl, hx1, hx2⟩ := hx
    obtain ⟨v, vs, rfl, hy1, hy2⟩ := hy
    rw [sameC_eq h.1 hx1 hy1, sameL_eq h.2 hx2 hy2]
theorem sameA_eq {m : Mp} {x y : AV} {u v : Value} (h : sameA x y = true) (hx : VR m x u) (hy : VR m y v) : u = v := by
  unfold sameA at h
  split at h
  · obtain ⟨us, rfl, hx'⟩ := hx.agg_inv
    obtain ⟨vs, rfl, hy'⟩ := hy.agg_inv
    rw [sameL_eq h hx' hy']
  · exact sameC_eq h hx hy

theorem clockA_inv {c0 : AV} {cs : List AV} {c : Int} (h : clockA (c0 :: cs) = some c) : c0 = .int .i64 c := by
  unfold clockA at h
  split at h
  · rename_i heq; cases heq; cases h; rfl
  · cases h
theorem modify_list (es : Array MapEntry) (i0 : Nat) (f : MapEntry → MapEntry) {e0 : MapEntry} (he0 : es.toList[i0]? = some e0) : (es.modify i0 f).toList = es.toList.set i0 (f e0) := by
  have he0' : es[i0]? = some e0 := by simpa using he0
  apply List.ext_getElem?
  intro jj
  simp only [Array.getElem?_toList, Array.getElem?_modify, List.getElem?_set, Array.length_toList]
  obtain ⟨hlt, hge⟩ := Array.getElem?_eq_some_iff.1 he0'
  by_cases c : i0 = jj
  · subst c
    simp [hlt, hge]
  · simp [c]
theorem kvs_old {m : Mp} {es : List MapEntry} {cs : List AV} (g2 : VRs m cs (kvs es)) {i0 : Nat} {e0 : MapEntry} (he0 : es[i0]? = some e0) : VR m (cs.getD (3 * i0) .nilm) e0.key := by
  have hlen := VRs.of_kvs _ _ g2
  obtain ⟨hkey, _, _⟩ := kvs_get es i0 e0 he0
  have hlt : 3 * i0 < cs.length := by
    have := (List.getElem?_eq_some_iff.1 he0).1
    omega
  obtain ⟨y2, hy2, hr2⟩ := g2.get (List.getElem?_eq_getElem hlt)
  rw [hkey] at hy2; cases hy2
  rw [List.getD_eq_getElem?_getD, List.getElem?_eq_getElem hlt]
  exact hr2

theorem st_mput (hr : HR B m h w) (ht : VRs m ts a.tmps.toList) {t k el : TypeId} {q : EqK} {x i v : Operand} {x' i' v' : X} (ho : o.op = .mapUpdate t x i v ∨ o.op = .insert t x i v) (hu : P.underlying t = some (.map k el)) (hq : eqkOf P 8 k = some q)
    (hx : cX x = some x') (hi : cX i = some i') (hv : cX v = some v') (e : opRun call ts (.mput q x' i' v') h n lg = some r) : Step P B m n r (execOp a.eval o) w := by
  simp only [opRun] at e
  have h1 := cX_sound ht hx
  have h2 := cX_sound ht hi
  have h3 := cX_sound ht hv
  generalize x'.ev ts = s at e h1
  generalize i'.ev ts = y at e h2
  generalize v'.ev ts = z at e h3
  cases hk : keyA q y with
  | false => rw [hk] at e; simp [A.fail] at e
  | true =>
    rw [hk] at e
    simp only at e
    have hck := fun em => check_run (P := P) (w := w) (em := em) 8 k q y _ hq hk h2 10000 (by omega)
    have hexec : (execOp a.eval o) = (do Instr.mapUpdate t (a.eval x) (a.eval i) (a.eval v); pure .skip) := by
      unfold execOp; rcases ho with ho | ho <;> rw [ho]
    cases s <;> first | (simp [A.fail] at e; done) | skip
    rename_i b
    obtain ⟨l, hl, hm, hp⟩ := h1.map_inv
    obtain ⟨r1, r2, e1, e2, rfl⟩ := A.bind_inv e
    obtain ⟨K, hK, rfl⟩ := rdBlk_inv e1
    obtain ⟨⟨es, ck, g1, g2⟩, _, _, _⟩ := hr.atM hK hl hm
    obtain ⟨c0, cs, hcs, gc, g2⟩ := g2.uncons
    dsimp only at e2
    rw [hcs] at e2
    simp only [List.drop_succ_cons, List.drop_zero, List.getD_cons_succ, List.set_cons_succ] at e2
    cases hf : findA q y cs 0 with
    | none => rw [hf] at e2; simp [A.fail] at e2
    | some res =>
      rw [hf] at e2
      obtain ⟨rs, hrs, hfn⟩ := findKey_run hq h2 w es.toList cs res g2 hf
      rcases res with _ | ⟨j, u⟩
      · have hrs0 : rs = none := by
          rcases rs with _ | ⟨_, _⟩
          · rfl
          · exact hfn.elim
        subst hrs0
        simp only at e2
        cases hcl : clockA (c0 :: cs) with
        | none => rw [hcl] at e2; simp [A.fail] at e2
        | some c =>
        rw [hcl] at e2
        simp only at e2
        obtain ⟨r3, r4, e3, e4, rfl⟩ := A.bind_inv e2
        obtain ⟨K', hK', hown, rfl⟩ := wrMap_inv e3
        have e5 := A.ret_inv e4; subst e5
        rw [hK] at hK'; cases hK'
        have hc0 := clockA_inv hcl
        subst hc0
        have hcc := gc.int_inv
        simp only [Value.int.injEq, true_and] at hcc
        have hset := hr.setM (ck' := ck + 1) hK hl hm g1 (es' := es.push { key := a.eval i, val := a.eval v, born := ck }) (cs := .int .i64 (c + 1) :: (cs ++ [y, z, .int .i64 c])) (by
          rw [Array.toList_push, kvs_append]
          refine VRs.cons_iff.2 ⟨?_, VRs.append g2 (VRs.cons_iff.2 ⟨h2, VRs.cons_iff.2 ⟨h3, VRs.cons_iff.2 ⟨?_, VRs.nil⟩⟩⟩)⟩
          · rw [← hcc]; exact VR.int .i64 _
          · rw [← hcc]; exact VR.int .i64 _)
        refine ⟨m, undef, _, .inr ⟨rfl, ?_⟩, Ext.refl m n, hset.1, VR.undef, hset.2, Nat.le_refl n⟩
        rw [hexec]
        refine run_unit ?_
        simp only [Instr.mapUpdate, Sem.run_bind, run_und hu, Result.andThen_ok, hp, MapKept.run_getObj_map g1, hck, hrs, MapKept.run_setObj_map _ g1]
      · rcases rs with _ | ⟨i0, uv⟩
        · exact hfn.elim
        obtain ⟨hj, _, hvv, e0, he0, hev⟩ := hfn
        simp only at e2
        cases hs : sameA (cs.getD j .nilm) y with
        | false => rw [hs] at e2; simp [A.fail] at e2
        | true =>
          rw [hs] at e2
          simp only at e2
          obtain ⟨r3, r4, e3, e4, rfl⟩ := A.bind_inv e2
          obtain ⟨K', hK', hown, rfl⟩ := wrMap_inv e3
          have e5 := A.ret_inv e4; subst e5
          rw [hK] at hK'; cases hK'
          simp only [Nat.sub_zero] at he0 hj
          have hj2 : j = 3 * i0 := by omega
          subst hj2
          have hold := kvs_old g2 he0
          have hbits := sameA_bits hs hold h2 9999
          have he0' : es[i0]? = some e0 := by simpa using he0
          have hmod := modify_list es i0 (fun e => { e with key := a.eval i, val := a.eval v }) he0
          have heq := sameA_eq hs hold h2
          have hset := hr.setM (ck' := ck) hK hl hm g1 (es' := es.modify i0 fun e => { e with key := a.eval i, val := a.eval v }) (cs := c0 :: cs.set (3 * i0 + 1) z) (by
            rw [hmod, kvs_set es.toList i0 e0 { e0 with key := a.eval i, val := a.eval v } he0 heq.symm rfl]
            exact VRs.cons_iff.2 ⟨gc, VRs.set h3 _ g2⟩)
          refine ⟨m, undef, _, .inr ⟨rfl, ?_⟩, Ext.refl m n, hset.1, VR.undef, hset.2, Nat.le_refl n⟩
          rw [hexec]
          refine run_unit ?_
          simp only [Instr.mapUpdate, Sem.run_bind, run_und hu, Result.andThen_ok, hp, MapKept.run_getObj_map g1, hck, hrs, he0', Option.map_some, Option.getD_some, Instr.keyThatStays, hbits, if_true, Sem.run_pure, MapKept.run_setObj_map _ g1]

theorem st_mdel (hr : HR B m h w) (ht : VRs m ts a.tmps.toList) {c : Call} {t k el : TypeId} {q : EqK} {x i : Operand} {x' i' : X} (ho : o.op = .call c) (hb : c.callee = .builtin .delete) (ha : c.args.toList = [x, i]) (h0 : c.argTypes[0]? = some t) (hu : P.underlying t = some (.map k el)) (hq : eqkOf P 8 k = some q)
    (hx : cX x = some x') (hi : cX i = some i') (e : opRun call ts (.mdel q x' i') h n lg = some r) : Step P B m n r (execOp a.eval o) w := by
  simp only [opRun] at e
  have h1 := cX_sound ht hx
  have h2 := cX_sound ht hi
  generalize x'.ev ts = s at e h1
  generalize i'.ev ts = y at e h2
  have hvr : VR m (.tup []) (.tuple #[]) := by simp only [VR]; exact ⟨[], rfl, VRs.nil⟩
  cases hk : keyA q y with
  | false => rw [hk] at e; simp [A.fail] at e
  | true =>
    rw [hk] at e
    simp only at e
    have hck := fun em => check_run (P := P) (w := w) (em := em) 8 k q y _ hq hk h2 10000 (by omega)
    have hexec : (execOp a.eval o) = (do pure (.value (← Builtin.delete_ c.argTypes o.type #[a.eval x, a.eval i])) : Sem Next) := by
      rw [exec_builtin (P := P) ho hb, args_of ha]
      rfl
    cases s <;> first | (simp [A.fail] at e; done) | skip
    · rename_i b
      obtain ⟨l, hl, hm, hp⟩ := h1.map_inv
      obtain ⟨r1, r2, e1, e2, rfl⟩ := A.bind_inv e
      obtain ⟨K, hK, rfl⟩ := rdBlk_inv e1
      obtain ⟨⟨es, ck, g1, g2⟩, _, _, _⟩ := hr.atM hK hl hm
      obtain ⟨c0, cs, hcs, gc, g2⟩ := g2.uncons
      dsimp only at e2
      rw [hcs] at e2
      simp only [List.drop_succ_cons, List.drop_zero] at e2
      cases hf : findA q y cs 0 with
      | none => rw [hf] at e2; simp [A.fail] at e2
      | some res =>
        rw [hf] at e2
        obtain ⟨rs, hrs, hfn⟩ := findKey_run hq h2 w es.toList cs res g2 hf
        rcases res with _ | ⟨j, u⟩
        · have hrs0 : rs = none := by
            rcases rs with _ | ⟨_, _⟩
            · rfl
            · exact hfn.elim
          subst hrs0
          simp only at e2
          have e5 := A.ret_inv e2; subst e5
          have hsame : ({ w with heap := w.heap.setIfInBounds l.blk (.map es ck) } : World) = w := by
            have hlt := (Array.getElem?_eq_some_iff.1 g1)
            have : w.heap.setIfInBounds l.blk (.map es ck) = w.heap := by
              apply Array.ext'
              apply List.ext_getElem?
              intro jj
              simp only [Array.getElem?_toList]
              by_cases c : jj = l.blk
              · subst c; rw [(heap_set g1).1, g1]
              · exact (heap_set g1).2 jj c
            rw [this]
          refine Step.same hr ?_ hvr
          rw [hexec]
          refine run_val ?_
          simp only [Builtin.delete_, h0, List.getElem?_toArray, List.getElem?_cons_zero, List.getElem?_cons_succ, Sem.run_bind, run_und hu, Result.andThen_ok, hp, MapKept.run_getObj_map g1, hck, hrs, MapKept.run_setObj_map _ g1, hsame, Sem.run_pure]
        · rcases rs with _ | ⟨i0, uv⟩
          · exact hfn.elim
          obtain ⟨hj, _, hvv, e0, he0, hev⟩ := hfn
          simp only at e2
          obtain ⟨r3, r4, e3, e4, rfl⟩ := A.bind_inv e2
          obtain ⟨K', hK', hown, rfl⟩ := wrMap_inv e3
          have e5 := A.ret_inv e4; subst e5
          rw [hK] at hK'; cases hK'
          simp only [Nat.sub_zero] at he0 hj
          have hj2 : j = 3 * i0 := by omega
          subst hj2
          have hlt := (List.getElem?_eq_some_iff.1 he0).1
          have herase : (es.eraseIdxIfInBounds i0).toList = es.toList.eraseIdx i0 := by
            unfold Array.eraseIdxIfInBounds
            rw [dif_pos (by simpa using hlt)]
            simp
          have hset := hr.setM (ck' := ck) hK hl hm g1 (es' := es.eraseIdxIfInBounds i0) (cs := (c0 :: cs).take (3 * i0 + 1) ++ (c0 :: cs).drop (3 * i0 + 4)) (by
            rw [herase, kvs_erase es.toList i0 hlt, List.take_succ_cons, show 3 * i0 + 4 = 3 * i0 + 3 + 1 by omega, List.drop_succ_cons, List.cons_append]
            exact VRs.cons_iff.2 ⟨gc, VRs.append (VRs.take _ g2) (VRs.drop _ g2)⟩)
          refine ⟨m, .tuple #[], _, .inl ?_, Ext.refl m n, hset.1, hvr, hset.2, Nat.le_refl n⟩
          rw [hexec]
          refine run_val ?_
          simp only [Builtin.delete_, h0, List.getElem?_toArray, List.getElem?_cons_zero, List.getElem?_cons_succ, Sem.run_bind, run_und hu, Result.andThen_ok, hp, MapKept.run_getObj_map g1, hck, hrs, MapKept.run_setObj_map _ g1, Sem.run_pure]
    · have hp := h1.nilm_inv
      have e3 := A.ret_inv e; subst e3
      refine Step.same hr ?_ hvr
      rw [hexec]
      refine run_val ?_
      simp only [Builtin.delete_, h0, List.getElem?_toArray, List.getElem?_cons_zero, List.getElem?_cons_succ, Sem.run_bind, run_und hu, Result.andThen_ok, hp, hck, Sem.run_pure]

theorem VR.tup2 {m : Mp} {x y : AV} {u v : Value} (hx : VR m x u) (hy : VR m y v) : VR m (.tup [x, y]) (.tuple #[u, v]) := by
  simp only [VR]; exact ⟨[u, v], rfl, VRs.cons_iff.2 ⟨hx, VRs.cons_iff.2 ⟨hy, VRs.nil⟩⟩⟩
theorem st_ment (hr : HR B m h w) (ht : VRs m ts a.tmps.toList) {t k el : TypeId} {q : EqK} {z : AV} {x i : Operand} {x' i' : X} (ho : o.op = .mapEntry t x i) (hu : P.underlying t = some (.map k el)) (hq : eqkOf P 8 k = some q) (hz : zeroAV P el = some z)
    (hx : cX x = some x') (hi : cX i = some i') (e : opRun call ts (.ment q z x' i') h n lg = some r) : Step P B m n r (execOp a.eval o) w := by
  simp only [opRun] at e
  have h1 := cX_sound ht hx
  have h2 := cX_sound ht hi
  generalize x'.ev ts = s at e h1
  generalize i'.ev ts = y at e h2
  cases hk : keyA q y with
  | false => rw [hk] at e; simp [A.fail] at e
  | true =>
    rw [hk] at e
    simp only at e
    have hck := fun em => check_run (P := P) (w := w) (em := em) 8 k q y _ hq hk h2 10000 (by omega)
    have hexec : (execOp a.eval o) = (do pure (.value (← Instr.mapEntry t (a.eval x) (a.eval i))) : Sem Next) := by
      unfold execOp; rw [ho]
    cases s <;> first | (simp [A.fail] at e; done) | skip
    rename_i b
    obtain ⟨l, hl, hm, hp⟩ := h1.map_inv
    obtain ⟨r1, r2, e1, e2, rfl⟩ := A.bind_inv e
    obtain ⟨K, hK, rfl⟩ := rdBlk_inv e1
    obtain ⟨⟨es, ck, g1, g2⟩, _, _, _⟩ := hr.atM hK hl hm
    obtain ⟨c0, cs, hcs, gc, g2⟩ := g2.uncons
    have hlen := VRs.of_kvs _ _ g2
    dsimp only at e2
    rw [hcs] at e2
    simp only [List.drop_succ_cons, List.drop_zero, List.getD_cons_succ, List.getElem?_cons_succ] at e2
    cases hf : findA q y cs 0 with
    | none => rw [hf] at e2; simp [A.fail] at e2
    | some res =>
      rw [hf] at e2
      obtain ⟨rs, hrs, hfn⟩ := findKey_run hq h2 w es.toList cs res g2 hf
      rcases res with _ | ⟨j, u⟩
      · have hrs0 : rs = none := by
          rcases rs with _ | ⟨_, _⟩
          · rfl
          · exact hfn.elim
        subst hrs0
        simp only at e2
        cases hcl : clockA (c0 :: cs) with
        | none => rw [hcl] at e2; simp [A.fail] at e2
        | some c =>
        rw [hcl] at e2
        simp only at e2
        obtain ⟨r3, r4, e3, e4, rfl⟩ := A.bind_inv e2
        obtain ⟨K', hK', hown, rfl⟩ := wrMap_inv e3
        have e5 := A.ret_inv e4; subst e5
        rw [hK] at hK'; cases hK'
        have hc0 := clockA_inv hcl
        subst hc0
        have hcc := gc.int_inv
        simp only [Value.int.injEq, true_and] at hcc
        obtain ⟨zv, hzr, hzv⟩ := zeroAV_run (P := P) hz w
        have hset := hr.setM (ck' := ck + 1) hK hl hm g1 (es' := es.push { key := a.eval i, val := zv, born := ck }) (cs := .int .i64 (c + 1) :: (cs ++ [y, z, .int .i64 c])) (by
          rw [Array.toList_push, kvs_append]
          refine VRs.cons_iff.2 ⟨?_, VRs.append g2 (VRs.cons_iff.2 ⟨h2, VRs.cons_iff.2 ⟨hzv m, VRs.cons_iff.2 ⟨?_, VRs.nil⟩⟩⟩)⟩
          · rw [← hcc]; exact VR.int .i64 _
          · rw [← hcc]; exact VR.int .i64 _)
        refine ⟨m, .tuple #[zv, goInt ck], _, .inl ?_, Ext.refl m n, hset.1, VR.tup2 (hzv m) (by rw [← hcc]; simp only [goInt]; exact VR.int _ _), hset.2, Nat.le_refl n⟩
        rw [hexec]
        refine run_val ?_
        simp only [Instr.mapEntry, Sem.run_bind, run_und hu, Result.andThen_ok, hp, MapKept.run_getObj_map g1, hck, hrs, hzr, MapKept.run_setObj_map _ g1, Sem.run_pure]
      · rcases rs with _ | ⟨i0, uv⟩
        · exact hfn.elim
        obtain ⟨hj, _, hvv, e0, he0, hev⟩ := hfn
        simp only at e2
        cases hs : sameA (cs.getD j .nilm) y with
        | false => rw [hs] at e2; simp [A.fail] at e2
        | true =>
          rw [hs] at e2
          simp only at e2
          simp only [Nat.sub_zero] at he0 hj
          have hj2 : j = 3 * i0 := by omega
          subst hj2
          cases hst : cs[3 * i0 + 2]? with
          | none => rw [hst] at e2; simp [A.fail] at e2
          | some sv =>
          rw [hst] at e2
          simp only at e2
          obtain ⟨r3, r4, e3, e4, rfl⟩ := A.bind_inv e2
          obtain ⟨K', hK', hown, rfl⟩ := wrMap_inv e3
          have e5 := A.ret_inv e4; subst e5
          rw [hK] at hK'; cases hK'
          have hold := kvs_old g2 he0
          have hbits := sameA_bits hs hold h2 9999
          have he0' : es[i0]? = some e0 := by simpa using he0
          have hmod := modify_list es i0 (fun e => { e with key := a.eval i }) he0
          have heq := sameA_eq hs hold h2
          obtain ⟨_, hkv, hks⟩ := kvs_get es.toList i0 e0 he0
          have hsv : VR m sv (.int .i64 e0.born) := by
            obtain ⟨y2, hy2, hr2⟩ := g2.get hst
            rw [hks] at hy2; cases hy2; exact hr2
          have hsame : (es.modify i0 fun e => { e with key := a.eval i }) = es := by
            apply Array.toList_inj.1
            rw [hmod]
            have : ({ e0 with key := a.eval i } : MapEntry) = e0 := by cases e0; simp only at heq; rw [← heq]
            rw [this]
            obtain ⟨hlt, hge⟩ := List.getElem?_eq_some_iff.1 he0
            rw [← hge, List.set_getElem_self]
          have hset := hr.setM (ck' := ck) hK hl hm g1 (es' := es.modify i0 fun e => { e with key := a.eval i }) (cs := c0 :: cs) (by
            rw [hsame]
            exact VRs.cons_iff.2 ⟨gc, g2⟩)
          refine ⟨m, .tuple #[uv, goInt e0.born], _, .inl ?_, Ext.refl m n, hset.1, VR.tup2 hvv (by simp only [goInt]; exact hsv), hset.2, Nat.le_refl n⟩
          rw [hexec]
          refine run_val ?_
          simp only [Instr.mapEntry, Sem.run_bind, run_und hu, Result.andThen_ok, hp, MapKept.run_getObj_map g1, hck, hrs, he0', Option.map_some, Option.getD_some, Instr.keyThatStays, hbits, if_true, Sem.run_pure, MapKept.run_setObj_map _ g1]

theorem findS_cons {nn : Int} {c d s : AV} {cs : List AV} {i j : Nat} (hf : findS nn (c :: d :: s :: cs) i = some j) : ∃ mm, s = .int .i64 mm := by
  cases s <;> first | (simp [findS] at hf; done) | skip
  rename_i kk mm
  cases kk <;> first | (simp [findS] at hf; done) | exact ⟨mm, rfl⟩
/-- Where a stamp is, in the model's words. -/
theorem findS_run {m : Mp} {nn : Int} : ∀ (es : List MapEntry) (cs : List AV) (i0 k0 j : Nat), VRs m cs (kvs es) → findS nn cs i0 = some j → ∃ i e, es[i]? = some e ∧ j = i0 + 3 * i ∧ es.findIdx? (fun e => (e.born : Int) == nn) = some i
  | [], cs, i0, k0, j, hv, hf => by
    have : cs = [] := by cases cs with
      | nil => rfl
      | cons c cs => simp [kvs, VRs] at hv
    subst this
    simp [findS] at hf
  | e :: es, cs, i0, k0, j, hv, hf => by
    simp only [kvs] at hv
    obtain ⟨c, cs, rfl, h1, hv⟩ := hv.uncons
    obtain ⟨d', cs, rfl, h2, hv⟩ := hv.uncons
    obtain ⟨s', cs, rfl, h4, h3⟩ := hv.uncons
    obtain ⟨mm, rfl⟩ := findS_cons hf
    have hb := h4.int_inv
    simp only [Value.int.injEq, true_and] at hb
    simp only [findS] at hf
    by_cases hd : mm = nn
    · rw [decide_eq_true hd] at hf
      cases hf
      refine ⟨0, e, rfl, by omega, ?_⟩
      rw [List.findIdx?_cons, hb, hd]
      simp
    · rw [decide_eq_false hd] at hf
      simp only at hf
      obtain ⟨i, e', g1, g2, g3⟩ := findS_run es cs (i0 + 3) (k0 + 1) j h3 hf
      refine ⟨i + 1, e', by simpa using g1, by omega, ?_⟩
      rw [List.findIdx?_cons, hb, show (mm == nn) = false from beq_eq_false_iff_ne.2 hd, g3]
      rfl
theorem st_mest (hr : HR B m h w) (ht : VRs m ts a.tmps.toList) {t : TypeId} {x i v : Operand} {x' i' v' : X} (ho : o.op = .entryStore t x i v)
    (hx : cX x = some x') (hi : cX i = some i') (hv : cX v = some v') (e : opRun call ts (.mest x' i' v') h n lg = some r) : Step P B m n r (execOp a.eval o) w := by
  simp only [opRun] at e
  have h1 := cX_sound ht hx
  have h2 := cX_sound ht hi
  have h3 := cX_sound ht hv
  generalize x'.ev ts = s at e h1
  generalize i'.ev ts = y at e h2
  generalize v'.ev ts = z at e h3
  have hexec : (execOp a.eval o) = (do Instr.entryStore t (a.eval x) (a.eval i) (a.eval v); pure .skip) := by
    unfold execOp; rw [ho]
  cases s <;> first | (simp [A.fail] at e; done) | skip
  cases y <;> first | (simp [A.fail] at e; done) | skip
  rename_i b kd nn
  have hy := h2.int_inv
  obtain ⟨l, hl, hm, hp⟩ := h1.map_inv
  obtain ⟨r1, r2, e1, e2, rfl⟩ := A.bind_inv e
  obtain ⟨K, hK, rfl⟩ := rdBlk_inv e1
  obtain ⟨⟨es, ck, g1, g2⟩, _, _, _⟩ := hr.atM hK hl hm
  obtain ⟨c0, cs, hcs, gc, g2⟩ := g2.uncons
  dsimp only at e2
  rw [hcs] at e2
  simp only [List.drop_succ_cons, List.drop_zero, List.set_cons_succ] at e2
  cases hf : findS nn cs 0 with
  | none => rw [hf] at e2; simp [A.fail] at e2
  | some j =>
    rw [hf] at e2
    simp only at e2
    obtain ⟨r3, r4, e3, e4, rfl⟩ := A.bind_inv e2
    obtain ⟨K', hK', hown, rfl⟩ := wrMap_inv e3
    have e5 := A.ret_inv e4; subst e5
    rw [hK] at hK'; cases hK'
    obtain ⟨i0, e0, he0, hj, hfi⟩ := findS_run es.toList cs 0 0 j g2 hf
    have hj2 : j = 3 * i0 := by omega
    subst hj2
    have hmod := modify_list es i0 (fun e => { e with val := a.eval v }) he0
    have hset := hr.setM (ck' := ck) hK hl hm g1 (es' := es.modify i0 fun e => { e with val := a.eval v }) (cs := c0 :: cs.set (3 * i0 + 1) z) (by
      rw [hmod, kvs_set es.toList i0 e0 { e0 with val := a.eval v } he0 rfl rfl]
      exact VRs.cons_iff.2 ⟨gc, VRs.set h3 _ g2⟩)
    refine ⟨m, undef, _, .inr ⟨rfl, ?_⟩, Ext.refl m n, hset.1, VR.undef, hset.2, Nat.le_refl n⟩
    rw [hexec]
    refine run_unit ?_
    have hfa : es.findIdx? (fun e => (e.born : Int) == nn) = some i0 := by rw [← List.findIdx?_toArray, Array.toArray_toList] at hfi; exact hfi
    simp only [Instr.entryStore, Sem.run_bind, Result.andThen_ok, hp, MapKept.run_getObj_map g1, hy, asInt, asIntOf, Sem.run_pure, hfa, MapKept.run_setObj_map _ g1]

end
end Go.Proofs.YtamfoplfbidolaaGreatDoorE

/- The engine, part 12: every operation but a call, in one theorem. -/
import Derived.Test.YtamfoplfbidolaaGreatDoorE28
namespace Go.Proofs.YtamfoplfbidolaaGreatDoorE
open Go Go.RowKit
set_option linter.unusedVariables false
set_option linter.unusedSimpArgs false

section
variable {P : Program} {B : Nat} {m : Mp} {h : Mem} {w : World} {ts : List AV} {a : Act} {n lg : Nat} {r : Rs AV} {o : Oper} {call : FuncId → List AV → A AV}

theorem st_app (hr : HR B m h w) (ht : VRs m ts a.tmps.toList) (hf : Fresh m n r.nx) {c : Call} {t u el : TypeId} {sz by_ : Nat} {z : List AV} {d : TypeDesc} {s x : Operand} {s' x' : X} (ho : o.op = .call c) (hb : c.callee = .builtin .append) (ha : c.args.toList = [s, x])
    (h0 : c.argTypes[0]? = some t) (h1 : c.argTypes[1]? = some u) (htt : P.underlying t = some (.slice el)) (hu : P.underlying u = some d) (hd : d = .string ∨ ∃ q, d = .slice q) (hz : zeroOf P el = some z) (hs : szOf P el = some sz) (hby : byOf P el = some by_)
    (hsz : 0 < sz) (hzl : z.length = sz) (hcs : cX s = some s') (hcx : cX x = some x')
    (e : opRun call ts (.app el sz by_ s' x') h n lg = some r) : Step P B m n r (execOp a.eval o) w := by
  simp only [opRun] at e
  have e1 := cX_sound ht hcs
  have e2 := cX_sound ht hcx
  cases hl : lenA (x'.ev ts) with
  | none => rw [hl] at e; simp [A.fail] at e
  | some k =>
    rw [hl] at e
    obtain ⟨r1, r2, q1, q2, rfl⟩ := A.bind_inv e
    obtain ⟨news, hn1, hn2, hn3, hn4⟩ := rdEls_run (P := P) hr q1 e2
    have hlen := rdEls_len q1
    have hst : Step P B m n r2 (execOp a.eval o) w := by
      rw [hn3, hn4] at q2
      refine appA_run (P := P) (atys := c.argTypes) (ty := o.type) (su := a.eval s) (xu := a.eval x) hr (by simpa using hf) hsz (fun hfit => appends_of h0 h1 htt hs hby hz hzl hu ?_ (lenA_run hl e2 w) hn1 hfit) e1 hn2 hlen (fun u' w' hrun => ?_) q2
      · exact hd
      · rw [exec_builtin (P := P) ho hb, args_of ha]
        exact run_val hrun
    obtain ⟨m', u', w', g1, g2, g3, g4, g5, g6⟩ := hst
    exact ⟨m', u', w', g1, g2, g3, g4, g5, g6⟩

theorem st_appz (hr : HR B m h w) (ht : VRs m ts a.tmps.toList) (hf : Fresh m n r.nx) {c : Call} {t u el : TypeId} {sz by_ : Nat} {z : List AV} {kd : IntKind} {s x : Operand} {s' x' : X} (ho : o.op = .call c) (hb : c.callee = .builtin .append) (ha : c.args.toList = [s, x])
    (h0 : c.argTypes[0]? = some t) (h1 : c.argTypes[1]? = some u) (htt : P.underlying t = some (.slice el)) (hu : P.underlying u = some (.int kd)) (hz : zeroOf P el = some z) (hs : szOf P el = some sz) (hby : byOf P el = some by_)
    (hsz : 0 < sz) (hzl : z.length = sz) (hcs : cX s = some s') (hcx : cX x = some x')
    (e : opRun call ts (.appz el sz by_ z s' x') h n lg = some r) : Step P B m n r (execOp a.eval o) w := by
  simp only [opRun] at e
  have e1 := cX_sound ht hcs
  have e2 := cX_sound ht hcx
  generalize hx : x'.ev ts = xv at e e2
  cases xv <;> first | (simp [A.fail] at e; done) | skip
  rename_i kk q
  dsimp only at e
  cases hq : toN 281474976710656 q with
  | none => rw [hq] at e; simp [A.fail] at e
  | some k =>
    rw [hq] at e
    simp only at e
    obtain ⟨hq1, hq2⟩ : q = (k : Int) ∧ k < 281474976710656 := by
      unfold toN at hq
      by_cases c1 : 0 ≤ q
      · by_cases c2 : q < ((281474976710656 : Nat) : Int)
        · rw [decide_eq_true c1, decide_eq_true c2] at hq
          simp only [Bool.and_self, Option.some.injEq] at hq
          omega
        · rw [decide_eq_true c1, decide_eq_false c2] at hq; cases hq
      · rw [decide_eq_false c1] at hq; cases hq
    subst hq1
    cases hb0 : Nat.ble (k * by_) 281474976710656 with
    | false => rw [hb0] at e; simp [A.fail] at e
    | true =>
      rw [hb0] at e
      simp only at e
      have hkb := Nat.le_of_ble_eq_true hb0
      have hxe := e2.int_inv
      obtain ⟨zv, hzr, hzv⟩ := run_zeroOf' hz
      have hzs : zv.cells.size = sz := by rw [← Array.length_toList, (hzv (fun _ => none)).length, hzl]
      refine appA_run (P := P) (atys := c.argTypes) (ty := o.type) (su := a.eval s) (xu := a.eval x) hr hf hsz (fun hfit => by rw [hxe]; exact appends_ofz h0 h1 htt hs hby hzr hzs hu hq2 hkb hfit) e1 ((hzv m).reps k) (by rw [reps_length, hzl]) (fun u' w' hrun => ?_) e
      rw [exec_builtin (P := P) ho hb, args_of ha]
      exact run_val hrun
theorem st_copy (hr : HR B m h w) (ht : VRs m ts a.tmps.toList) {c : Call} {t el : TypeId} {sz : Nat} {d s : Operand} {d' s' : X} (ho : o.op = .call c) (hb : c.callee = .builtin .copy) (ha : c.args.toList = [d, s])
    (h0 : c.argTypes[0]? = some t) (htt : P.underlying t = some (.slice el)) (hs : szOf P el = some sz) (hcd : cX d = some d') (hcs : cX s = some s')
    (e : opRun call ts (.copy sz d' s') h n lg = some r) : Step P B m n r (execOp a.eval o) w := by
  simp only [opRun] at e
  have e1 := cX_sound ht hcd
  have e2 := cX_sound ht hcs
  cases hl1 : lenA (d'.ev ts) with
  | none => rw [hl1] at e; simp [A.fail] at e
  | some dn =>
    cases hl2 : lenA (s'.ev ts) with
    | none => rw [hl1, hl2] at e; simp [A.fail] at e
    | some sn =>
      rw [hl1, hl2] at e
      obtain ⟨r1, r2, q1, q2, rfl⟩ := A.bind_inv e
      obtain ⟨news, hn1, hn2, hn3, hn4⟩ := rdEls_run (P := P) hr q1 e2
      have hlen := rdEls_len q1
      have hnl := hn2.length
      have hlo := lenA_run (P := P) hl2 e2 w
      have hc := hn1 w rfl
      obtain ⟨vv, hh', nn', tc', wr'⟩ := r1
      simp only at hn2 hn3 hn4 q2 hlen hnl
      subst hn3; subst hn4
      generalize hdv : d'.ev ts = dv at q2 e1 hl1
      cases dv <;> first | (simp [A.fail] at q2; done) | skip
      · rename_i b off len cp
        simp only [VR] at e1
        obtain ⟨l, ad, cc, hl, hml, hp, hle, had, hcap⟩ := e1
        simp only [lenA] at hl1; cases hl1
        obtain ⟨r3, r4, q3, q4, rfl⟩ := A.bind_inv q2
        obtain ⟨k, hk, rfl⟩ := rdBlk_inv q3
        dsimp only at q4
        cases hfit : Nat.ble (off + min sn dn * sz) k.cells.length && vv.all AV.one with
        | false => rw [hfit] at q4; simp [A.fail] at q4
        | true =>
          rw [hfit] at q4
          rw [Bool.and_eq_true] at hfit
          have hfit1 := Nat.le_of_ble_eq_true hfit.1
          obtain ⟨r5, r6, q5, q6, rfl⟩ := A.bind_inv q4
          obtain ⟨k', hk', hown, hlen', rfl⟩ := wrBlk_inv q5
          have q7 := A.ret_inv q6; subst q7
          rw [hk] at hk'; cases hk'
          have hm : Nat.min sn dn = min sn dn := rfl
          by_cases hz : cc = 0
          · have hd0 : dn = 0 := by omega
            subst hd0
            have hm0 : min sn 0 = 0 := by omega
            have hnews : news = [] := List.eq_nil_of_length_eq_zero (by rw [hnl, hlen, hm0]; simp)
            subst hnews
            have hv0 : vv = [] := List.eq_nil_of_length_eq_zero (by rw [hlen, hm0]; simp)
            subst hv0
            have hset : ∀ j, (hh'.set b (some { k with cells := lay k.cells off [] })).blk j = hh'.blk j := by
              intro j
              rw [Mem.blk_set]
              split
              · rename_i ej; subst ej
                rw [hk]
                have : lay k.cells off [] = k.cells := by simp [lay]
                rw [this]
              · rfl
            refine ⟨m, .int .i64 ((min sn 0 : Nat) : Int), w, .inl ?_, Ext.refl m nn', hr.blk hset, VR.int _ _, Below.refl B w, Nat.le_refl nn'⟩
            rw [exec_builtin (P := P) ho hb, args_of ha]
            refine run_val ?_
            rw [hm0] at hc
            simp [Builtin.copy_, h0, run_und htt, hp, hlo, run_szOf hs, hm0, hc, storeCells, goInt]
          · have had' : ad = ⟨l.blk, l.base + off, none⟩ := by
              rcases had with had | had
              · exact absurd had hz
              · exact had
            subst had'
            obtain ⟨w', hst, hr', hbw⟩ := Step.write (P := P) hr hk hown hl hml (off := off) hn2 (by omega) hfit.2
            refine ⟨m, .int .i64 ((min sn dn : Nat) : Int), w', .inl ?_, Ext.refl m nn', hr', VR.int _ _, hbw, Nat.le_refl nn'⟩
            rw [exec_builtin (P := P) ho hb, args_of ha]
            refine run_val ?_
            simp [Builtin.copy_, h0, run_und htt, hp, hlo, run_szOf hs, hm, hc, hst, goInt]
      · have q3 := A.ret_inv q2; subst q3
        simp only [VR] at e1
        simp only [lenA] at hl1; cases hl1
        refine ⟨m, .int .i64 0, w, .inl ?_, Ext.refl m nn', hr, VR.int _ _, Below.refl B w, Nat.le_refl nn'⟩
        rw [exec_builtin (P := P) ho hb, args_of ha]
        refine run_val ?_
        have hm : Nat.min sn 0 = min sn 0 := rfl
        have hm0 : min sn 0 = 0 := by omega
        rw [hm0] at hc
        simp [Builtin.copy_, h0, run_und htt, e1, hlo, run_szOf hs, hm0, hc, goInt]

theorem eqkOf_kind {P : Program} {d : Nat} {t : TypeId} {k : EqK} (h : eqkOf P (d + 1) t = some k) (hi : isInt P t = false) (hs : isStr P t = false) : k ≠ .i ∧ k ≠ .s := by
  unfold eqkOf at h
  unfold isInt at hi
  unfold isStr at hs
  split at h <;> first | (cases h; done) | skip
  · cases h; simp
  · rename_i q hu; rw [hu] at hi; cases hi
  · rename_i hu; rw [hu] at hs; cases hs
  · cases h; simp
  · cases h; simp
  · cases h; simp
  · split at h
    · cases h
    · obtain ⟨fs, _, rfl⟩ := Option.map_eq_some_iff.1 h
      simp
  · split at h <;> first | (cases h; done) | skip
    cases h
    simp
theorem eqkOf_st {P : Program} {d : Nat} {t : TypeId} {k : EqK} (h : eqkOf P (d + 1) t = some k) : stK k = true → isAggT P t = true := by
  unfold eqkOf at h
  unfold isAggT
  split at h <;> first | (cases h; done) | skip
  all_goals first | (cases h; intro e; cases e; done) | skip
  all_goals
    rename_i hu
    intro _
    rw [hu]

/-- Is it a call of code? -/
def isCall : AOp → Bool
  | .call _ _ | .callv _ _ | .inv _ _ _ => true
  | _ => false
set_option maxHeartbeats 4000000 in
/-- Every operation but a call. -/
theorem op_step0 {ao : AOp} (hc : comp0 P o = some ao) (nc : isCall ao = false) (hr : HR B m h w) (ht : VRs m ts a.tmps.toList) (hf : Fresh m n r.nx) (e : opRun call ts ao h n lg = some r) :
    Step P B m n r (execOp a.eval o) w := by
  cases ho : o.op with
  | move x =>
    simp only [comp0, ho] at hc
    obtain ⟨x', hx, rfl⟩ := Option.map_eq_some_iff.1 hc
    exact st_mov hr ht (.inl ho) hx e
  | assign x =>
    simp only [comp0, ho] at hc
    obtain ⟨x', hx, rfl⟩ := Option.map_eq_some_iff.1 hc
    exact st_mov hr ht (.inr ho) hx e
  | pick c x y =>
    simp only [comp0, ho] at hc
    split at hc <;> first | (cases hc; done) | skip
    rename_i h1 h2 h3
    cases hc
    exact st_pick hr ht ho h1 h2 h3 e
  | alloc t =>
    simp only [comp0, ho] at hc
    split at hc <;> first | (cases hc; done) | skip
    rename_i h1 h2
    cases hc
    exact st_alloc hr hf ho h1 e
  | box t x =>
    simp only [comp0, ho] at hc
    split at hc <;> first | (cases hc; done) | skip
    rename_i h1 h2
    cases hc
    exact st_box hr ht hf ho h1 e
  | build t ps =>
    simp only [comp0, ho] at hc
    split at hc <;> first | (cases hc; done) | skip
    · rename_i h1 h2
      split at hc <;> first | (cases hc; done) | skip
      rename_i h3
      obtain ⟨qs, hq, rfl⟩ := Option.map_eq_some_iff.1 hc
      exact st_build_struct hr ht ho h1 h2 (fun f hf => List.all_eq_true.1 h3 f hf) hq e
    · rename_i h1 h2
      split at hc <;> first | (cases hc; done) | skip
      rename_i h3
      obtain ⟨qs, hq, rfl⟩ := Option.map_eq_some_iff.1 hc
      exact st_build_array hr ht ho h1 h2 h3 hq e
  | buildSlice t len ps =>
    simp only [comp0, ho] at hc
    split at hc <;> first | (cases hc; done) | skip
    rename_i h1
    split at hc <;> first | (cases hc; done) | skip
    rename_i h2 h3
    split at hc <;> first | (cases hc; done) | skip
    rename_i h4
    rw [Bool.and_eq_true] at h4
    obtain ⟨qs, hq, rfl⟩ := Option.map_eq_some_iff.1 hc
    exact st_bslice hr ht hf ho h2 h1 h3 (Nat.eq_of_beq_eq_true h4.1) (Nat.le_of_ble_eq_true h4.2) hq e
  | load t x =>
    simp only [comp0, ho] at hc
    split at hc <;> first | (cases hc; done) | skip
    rename_i h1 h2
    cases hc
    exact st_load hr ht ho h1 h2 e
  | store t x y =>
    simp only [comp0, ho] at hc
    split at hc <;> first | (cases hc; done) | skip
    rename_i h1 h2 h3
    cases hc
    exact st_store hr ht ho h1 h2 h3 e
  | nilCheck x =>
    simp only [comp0, ho] at hc
    split at hc
    · obtain ⟨x', hx, rfl⟩ := Option.map_eq_some_iff.1 hc
      exact st_nilq hr ht ho hx e
    · obtain ⟨x', hx, rfl⟩ := Option.map_eq_some_iff.1 hc
      exact st_nilc hr ht ho hx e
  | binOp op t x y t' =>
    simp only [comp0, ho] at hc
    split at hc <;> first | (cases hc; done) | skip
    rename_i x' y' h1 h2
    have eqcase : ∀ neg, ((op = .eql ∧ neg = false) ∨ (op = .neq ∧ neg = true)) → ∀ (hk : (match isInt P t || isStr P t with | true => some (AOp.bin op x' y') | false => (match P.eqGuardType P.depth t && isAggT P t with | true => none | false => (eqkOf P 8 t).map fun k => AOp.eq neg k x' y')) = some ao), Step P B m n r (execOp a.eval o) w := by
      intro neg hop hk
      split at hk
      · cases hk
        exact st_bin hr ht ho h1 h2 e
      · rename_i hi
        rw [Bool.or_eq_false_iff] at hi
        split at hk <;> first | (cases hk; done) | skip
        rename_i hg
        obtain ⟨k, hk', rfl⟩ := Option.map_eq_some_iff.1 hk
        refine st_eq hr ht ho hop hk' (eqkOf_kind hk' hi.1 hi.2) ?_ h1 h2 e
        rw [Bool.and_eq_false_iff] at hg
        rcases hg with hg | hg
        · exact .inl hg
        · right
          cases hst : stK k with
          | false => rfl
          | true =>
            have := eqkOf_st hk' hst
            rw [this] at hg; cases hg
    cases op <;> first
      | exact eqcase false (.inl ⟨rfl, rfl⟩) hc
      | exact eqcase true (.inr ⟨rfl, rfl⟩) hc
      | (cases hc; exact st_bin hr ht ho h1 h2 e)
  | unOp op t x =>
    simp only [comp0, ho] at hc
    split at hc <;> first | (cases hc; done) | skip
    rename_i h1
    cases op <;> cases hc <;> first
      | exact st_not hr ht ho h1 e
      | exact st_un hr ht ho h1 e
  | convert s d x =>
    simp only [comp0, ho] at hc
    split at hc <;> first | (cases hc; done) | skip
    · rename_i h1 h2 h3
      cases hc
      exact st_conv hr ht ho h1 h2 h3 e
    · rename_i h1 h2 h3
      cases hc
      exact st_i2s hr ht ho h1 h2 h3 e
    · rename_i h1 h2 h3
      split at hc <;> first | (cases hc; done) | skip
      rename_i h4
      split at hc <;> first | (cases hc; done) | skip
      rename_i h5
      cases hc
      exact st_b2s hr ht ho h4 h5 h2 h3 e
  | makeInterface t x =>
    simp only [comp0, ho] at hc
    split at hc <;> first | (cases hc; done) | skip
    rename_i h0 h1 h2
    cases hc
    exact st_mki hr ht ho h1 (fun ms hd => h0 ms hd) h2 e
  | makeFunc fn fs cs =>
    simp only [comp0, ho] at hc
    split at hc <;> first | (cases hc; done) | skip
    rename_i h1 h2
    split at hc <;> first | (cases hc; done) | skip
    · split at hc <;> first | (cases hc; done) | skip
      rename_i hmk
      cases hc
      exact st_mkf hr ht (by rw [fnOf_f hmk]; exact ho) h1 h2 e
    · split at hc <;> first | (cases hc; done) | skip
      rename_i hnm
      cases hc
      rw [beq_iff_eq] at hnm
      subst hnm
      exact st_mkf hr ht (show o.op = .makeFunc (fnOf 4294967295) fs cs from ho) h1 h2 e
  | makeMap t q =>
    simp only [comp0, ho] at hc
    split at hc <;> first | (cases hc; done) | skip
    rename_i h1
    cases hc
    exact st_mkm hr hf ho h1 e
  | lookup t x i ok =>
    simp only [comp0, ho] at hc
    split at hc <;> first | (cases hc; done) | skip
    rename_i h1 h2 h3
    split at hc <;> first | (cases hc; done) | skip
    rename_i h4 h5
    split at hc <;> first | (cases hc; done) | skip
    cases hc
    exact st_mget hr ht ho h1 h4 h5 h2 h3 e
  | mapEntry t x i =>
    simp only [comp0, ho] at hc
    split at hc <;> first | (cases hc; done) | skip
    rename_i h1 h2 h3
    split at hc <;> first | (cases hc; done) | skip
    rename_i h4 h5
    split at hc <;> first | (cases hc; done) | skip
    cases hc
    exact st_ment hr ht ho h1 h4 h5 h2 h3 e
  | entryStore t x s v =>
    simp only [comp0, ho] at hc
    split at hc <;> first | (cases hc; done) | skip
    rename_i h1 h2 h3
    cases hc
    exact st_mest hr ht ho h1 h2 h3 e
  | mapUpdate t x i v =>
    simp only [comp0, ho] at hc
    split at hc <;> first | (cases hc; done) | skip
    rename_i h1 h2 h3 h4
    split at hc <;> first | (cases hc; done) | skip
    rename_i h5
    split at hc <;> first | (cases hc; done) | skip
    cases hc
    exact st_mput hr ht (.inl ho) h1 h5 h2 h3 h4 e
  | insert t x i v =>
    simp only [comp0, ho] at hc
    split at hc <;> first | (cases hc; done) | skip
    rename_i h1 h2 h3 h4
    split at hc <;> first | (cases hc; done) | skip
    rename_i h5
    split at hc <;> first | (cases hc; done) | skip
    cases hc
    exact st_mput hr ht (.inr ho) h1 h5 h2 h3 h4 e
  | fieldAddr s x f =>
    simp only [comp0, ho] at hc
    split at hc <;> first | (cases hc; done) | skip
    rename_i h1 h2
    split at hc <;> first | (cases hc; done) | skip
    rename_i h3
    cases hc
    exact st_faddr hr ht ho h1 h3 h2 e
  | field t x f =>
    simp only [comp0, ho] at hc
    split at hc <;> first | (cases hc; done) | skip
    rename_i h1 h2
    obtain ⟨k, hk, rfl⟩ := Option.map_eq_some_iff.1 hc
    exact st_fld hr ht ho h1 hk h2 e
  | indexAddr t x i =>
    simp only [comp0, ho] at hc
    split at hc <;> first | (cases hc; done) | skip
    rename_i h1 h2
    split at hc <;> first | (cases hc; done) | skip
    · rename_i h3
      obtain ⟨k, hk, rfl⟩ := Option.map_eq_some_iff.1 hc
      exact st_iarr hr ht ho h3 hk h1 h2 e
    · rename_i h3
      obtain ⟨k, hk, rfl⟩ := Option.map_eq_some_iff.1 hc
      exact st_islc hr ht ho h3 hk h1 h2 e
  | index t x i =>
    simp only [comp0, ho] at hc
    split at hc <;> first | (cases hc; done) | skip
    rename_i h1 h2
    split at hc <;> first | (cases hc; done) | skip
    · rename_i h3
      split at hc <;> first | (cases hc; done) | skip
      rename_i h4 h5
      cases hc
      exact st_ixa hr ht ho h3 h4 h5 h1 h2 e
    · rename_i h3
      cases hc
      exact st_ixs hr ht ho h3 h1 h2 e
  | extract x i =>
    simp only [comp0, ho] at hc
    obtain ⟨x', hx, rfl⟩ := Option.map_eq_some_iff.1 hc
    exact st_ext hr ht ho hx e
  | makeSlice t l c =>
    simp only [comp0, ho] at hc
    split at hc <;> first | (cases hc; done) | skip
    rename_i h1 h2 h3
    split at hc <;> first | (cases hc; done) | skip
    rename_i h4 h5 h6
    split at hc <;> first | (cases hc; done) | skip
    rename_i h7
    cases hc
    exact st_mksl hr ht hf ho h4 h3 h5 h6 (Nat.eq_of_beq_eq_true h7) h1 h2 e
  | slice t x lo hi mx =>
    simp only [comp0, ho] at hc
    split at hc <;> first | (cases hc; done) | skip
    rename_i h1 h2 h3 h4
    split at hc <;> first | (cases hc; done) | skip
    rename_i h5
    split at hc <;> first | (cases hc; done) | skip
    · rename_i h6
      obtain ⟨k, hk, rfl⟩ := Option.map_eq_some_iff.1 hc
      exact st_slarr hr ht ho h6 hk h1 h2 h3 h4 h5 e
    · rename_i h6
      obtain ⟨k, hk, rfl⟩ := Option.map_eq_some_iff.1 hc
      exact st_slice hr ht ho h6 hk h1 h2 h3 h4 h5 e
    · rename_i h6
      split at hc <;> first | (cases hc; done) | skip
      cases hc
      have := cXo_none h4
      subst this
      exact st_slstr hr ht ho h6 h1 h2 h3 e
  | call c =>
    simp only [comp0, ho] at hc
    split at hc <;> first | (cases hc; done) | skip
    rename_i xs hxs
    split at hc <;> first | (cases hc; done) | skip
    · split at hc <;> first | (cases hc; done) | skip
      rename_i hfn
      split at hc <;> first | (cases hc; done) | skip
      · cases hc
        cases nc
      · split at hc <;> first | (cases hc; done) | skip
        obtain ⟨x, y, rfl, rfl⟩ := cntA_some hc
        obtain ⟨ox, rest, hargs, hx, hrest⟩ := cXs_cons hxs
        obtain ⟨oi, rest2, hargs2, hi, hrest2⟩ := cXs_cons hrest
        have hr0 := cXs_nil hrest2
        subst hr0; subst hargs2
        exact st_cnt hr ht ho (by assumption) hargs hfn (by assumption) hx hi e
    · obtain ⟨x', _, rfl⟩ := Option.map_eq_some_iff.1 hc
      cases nc
    · obtain ⟨x', _, rfl⟩ := Option.map_eq_some_iff.1 hc
      cases nc
    · rename_i b hb
      split at hc <;> first | (cases hc; done) | skip
      · rename_i x
        obtain ⟨ox, rest, hargs, hx, hrest⟩ := cXs_cons hxs
        have hr0 := cXs_nil hrest
        subst hr0
        split at hc <;> first | (cases hc; done) | skip
        rename_i h0
        split at hc <;> first | (cases hc; done) | skip
        · rename_i h1
          cases hc
          exact st_lens hr ht ho hb hargs h0 h1 hx e
        · rename_i h1
          cases hc
          exact st_lenl hr ht ho hb hargs h0 h1 hx e
        · rename_i h1
          cases hc
          exact st_mlen hr ht ho hb hargs h0 h1 hx e
        · rename_i h1
          cases hc
          exact st_lenc hr ht ho hb hargs h0 (.inl ⟨_, h1⟩) e
        · rename_i h1
          split at hc <;> first | (cases hc; done) | skip
          rename_i h2
          cases hc
          exact st_lenc hr ht ho hb hargs h0 (.inr ⟨_, _, h1, h2⟩) e
      · rename_i x
        obtain ⟨ox, rest, hargs, hx, hrest⟩ := cXs_cons hxs
        have hr0 := cXs_nil hrest
        subst hr0
        split at hc <;> first | (cases hc; done) | skip
        rename_i h0
        split at hc <;> first | (cases hc; done) | skip
        · rename_i h1
          cases hc
          exact st_capn hr ht ho hb hargs h0 h1 hx e
        · rename_i h1
          cases hc
          exact st_capc hr ht ho hb hargs h0 h1 e
      · rename_i x i
        obtain ⟨ox, rest, hargs, hx, hrest⟩ := cXs_cons hxs
        obtain ⟨oi, rest2, hargs2, hi, hrest2⟩ := cXs_cons hrest
        have hr0 := cXs_nil hrest2
        subst hr0; subst hargs2
        split at hc <;> first | (cases hc; done) | skip
        rename_i h0
        split at hc <;> first | (cases hc; done) | skip
        rename_i h1
        split at hc <;> first | (cases hc; done) | skip
        rename_i h2
        split at hc <;> first | (cases hc; done) | skip
        cases hc
        exact st_mdel hr ht ho hb hargs h0 h1 h2 hx hi e
      · cases hc
        exact st_mn hr ht ho hb hxs e
      · cases hc
        exact st_mx hr ht ho hb hxs e
      · rename_i s x
        obtain ⟨os, rest, hargs, hs, hrest⟩ := cXs_cons hxs
        obtain ⟨ox, rest2, hargs2, hx, hrest2⟩ := cXs_cons hrest
        have hr0 := cXs_nil hrest2
        subst hr0; subst hargs2
        split at hc <;> first | (cases hc; done) | skip
        rename_i h0 h1
        split at hc <;> first | (cases hc; done) | skip
        rename_i h2 h3
        split at hc <;> first | (cases hc; done) | skip
        rename_i h4 h5 h6
        split at hc <;> first | (cases hc; done) | skip
        rename_i h7
        rw [Bool.and_eq_true] at h7
        have hz0 : 0 < _ := Nat.lt_of_lt_of_le Nat.zero_lt_one (Nat.le_of_ble_eq_true h7.1)
        split at hc <;> first | (cases hc; done) | skip
        · cases hc
          exact st_app hr ht hf ho hb hargs h0 h1 h2 h3 (.inr ⟨_, rfl⟩) h4 h5 h6 hz0 (Nat.eq_of_beq_eq_true h7.2) hs hx e
        · cases hc
          exact st_appz hr ht hf ho hb hargs h0 h1 h2 h3 h4 h5 h6 hz0 (Nat.eq_of_beq_eq_true h7.2) hs hx e
        · split at hc <;> first | (cases hc; done) | skip
          cases hc
          exact st_app hr ht hf ho hb hargs h0 h1 h2 h3 (.inl rfl) h4 h5 h6 hz0 (Nat.eq_of_beq_eq_true h7.2) hs hx e
      · rename_i d s
        obtain ⟨os, rest, hargs, hs, hrest⟩ := cXs_cons hxs
        obtain ⟨ox, rest2, hargs2, hx, hrest2⟩ := cXs_cons hrest
        have hr0 := cXs_nil hrest2
        subst hr0; subst hargs2
        split at hc <;> first | (cases hc; done) | skip
        rename_i h0
        split at hc <;> first | (cases hc; done) | skip
        rename_i h1
        obtain ⟨k, hk, rfl⟩ := Option.map_eq_some_iff.1 hc
        exact st_copy hr ht ho hb hargs h0 h1 hk hs hx e
  | _ => simp [comp0, ho] at hc


theorem op_step {ao : AOp} (hc : comp P o = some ao) (nc : isCall ao = false) (hr : HR B m h w) (ht : VRs m ts a.tmps.toList) (hf : Fresh m n r.nx) (e : opRun call ts ao h n lg = some r) :
    Step P B m n r (execOp a.eval o) w := by
  unfold comp at hc
  cases h0 : comp0 P o with
  | none =>
    rw [h0] at hc
    simp only [Option.getD_none, Option.some.injEq] at hc
    subst hc
    simp [opRun, A.fail] at e
  | some ao' =>
    rw [h0] at hc
    simp only [Option.getD_some, Option.some.injEq] at hc
    subst hc
    exact op_step0 h0 nc hr ht hf e

end
end Go.Proofs.YtamfoplfbidolaaGreatDoorE

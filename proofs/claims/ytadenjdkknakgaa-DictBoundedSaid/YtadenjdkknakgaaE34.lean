/- The engine, part 34: a range over a map, in whatever order it goes. -/
import Derived.Test.YtadenjdkknakgaaE33
import Derived.Laws.IdiomRangeMap
namespace Go.Proofs.YtadenjdkknakgaaE
open Go Go.RowKit Go.MapKept
set_option linter.unusedVariables false
set_option linter.unusedSimpArgs false
set_option linter.unusedSectionVars false

section
variable {P : Program}
theorem run_setIter {w : World} {r : Nat} {a : Option Nat} {b : Nat} {c : Array Nat} {d : Nat} (h : w.heap[r]? = some (.mapIter a b c d)) (o : Obj) : (setObj r o).run P w = .ok () { w with heap := w.heap.setIfInBounds r o } := by
  simp only [setObj, Sem.run, h]

/-- 'next', wherever the iterator lies. -/
theorem run_next_at (w : World) (ty : TypeId) {r bm since c0 : Nat} {seen : Array Nat} {es : Array MapEntry} {clock : Nat} (hr : w.heap[r]? = some (.mapIter (some bm) since seen c0)) (hb : w.heap[bm]? = some (.map es clock)) (hold : ∀ x ∈ es.toList, x.born < since) (hsc : since ≤ c0) :
    ((leftOf es seen).size = 0 ∧ (Instr.next (.pointer (some ⟨r, 0, none⟩)) false ty).run P w = .ok (.tuple #[.bool false]) w) ∨
    ∃ e ∈ (leftOf es seen).toList, ∃ w1 : World, (w1 = w ∨ w1 = w.drew) ∧ (Instr.next (.pointer (some ⟨r, 0, none⟩)) false ty).run P w = .ok (.tuple #[.bool true, e.key, e.val]) { w1 with heap := w1.heap.setIfInBounds r (.mapIter (some bm) since (seen.push e.born) clock) } := by
  simp only [Instr.next, getObj, Sem.run_bind, Sem.run, hr, hb, Result.andThen, next_test_false seen es since c0 hold hsc, Bool.false_eq_true, if_false]
  unfold leftOf
  have hmem : ∀ x ∈ (Array.filter (fun e => !seen.contains e.born) es).toList, x.born < since := fun x hx => hold x (by simp at hx ⊢; exact hx.1)
  generalize Array.filter (fun e => !seen.contains e.born) es = L at hmem ⊢
  have e1 : L.filter (fun x => decide (x.born < since)) = L := Array.filter_eq_self.2 (fun x hx => by simpa using hmem x (by simpa using hx))
  have e2 : L.filter (fun x => decide (x.born ≥ since)) = #[] := by
    rw [Array.filter_eq_empty_iff]
    intro x hx
    have := hmem x (by simpa using hx)
    simp
    omega
  simp only [e1, e2, Array.append_empty]
  by_cases h0 : L.size = 0
  · left
    have : L = #[] := Array.eq_empty_of_size_eq_zero h0
    subst this
    refine ⟨rfl, ?_⟩
    simp [choose, Sem.run, Question.forced]
  · right
    have hne : L.isEmpty = false := by simp [Array.isEmpty, h0]
    simp only [hne, Bool.false_eq_true, if_false, Array.empty_append, Array.size_map]
    have hch : ∃ (j : Nat) (w1 : World), j < L.size ∧ (w1 = w ∨ w1 = w.drew) ∧ (choose (Question.mapNext L.size)).run P w = .ok j w1 := by
      by_cases hf : L.size ≤ 1
      · exact ⟨0, w, by omega, .inl rfl, by simp [choose, Sem.run, Question.forced, hf]⟩
      · exact ⟨_, w.drew, Nat.mod_lt _ (by omega), .inr rfl, by
          simp only [choose, Sem.run, Question.forced, decide_eq_true_eq, hf, if_false, Question.cut]
          rfl⟩
    obtain ⟨j, w1, hj, hal, hrun⟩ := hch
    refine ⟨L[j], by simp, w1, hal, ?_⟩
    have hr1 : w1.heap[r]? = some (.mapIter (some bm) since seen c0) := by rcases hal with rfl | rfl <;> exact hr
    simp only [hrun, Array.getElem?_map, Array.getElem?_eq_getElem hj, Option.map_some, Sem.run_bind, run_setIter hr1, Result.andThen]
    rfl

theorem run_entry_at (w : World) {r bm since : Nat} {seen : Array Nat} {es : Array MapEntry} {clock : Nat} {e : MapEntry} (hr : w.heap[r]? = some (.mapIter (some bm) since (seen.push e.born) clock)) (hb : w.heap[bm]? = some (.map es clock)) (he : e ∈ es.toList) (hn : (es.toList.map (·.born)).Nodup) :
    (Instr.entry (.pointer (some ⟨r, 0, none⟩))).run P w = .ok (.tuple #[e.key, e.val]) w := by
  have hf : es.find? (·.born == e.born) = some e := by rw [← Array.find?_toList]; exact find_born e es.toList hn he
  simp only [Instr.entry, getObj, Sem.run_bind, Sem.run, hr, hb, Result.andThen, Array.back?_push, bne_self_eq_false, Bool.false_eq_true, if_false, hf]
  rfl

theorem Born.nodup {es : List MapEntry} {ck : Nat} (h : Born es ck) : (es.map (·.born)).Nodup := by
  unfold List.Nodup
  rw [List.pairwise_map]
  exact h.1.imp fun h => Nat.ne_of_lt h

/-! ### A world later, memories that are only read -/
theorem HR.later {B : Nat} {m m' : Mp} {h : Mem} {w w' : World} (r : HR B m h w) (hm : m.le m') (hs : w.heap.size ≤ w'.heap.size) (he : ∀ b k l, h.blk b = some k → m b = some l → w'.heap[l.blk]? = w.heap[l.blk]?) : HR B m' h w' := by
  refine ⟨Nat.le_trans r.base hs, fun b k hb => ?_, fun b b' k k' l l' hne hb ho hb' hl hl' => ?_⟩
  · obtain ⟨l, hl, hh⟩ := r.held b k hb
    exact ⟨l, hm b l hl, (hh.mono hm).same (he b k l hb hl)⟩
  · obtain ⟨l1, hl1, _⟩ := r.held b k hb
    obtain ⟨l2, hl2, _⟩ := r.held b' k' hb'
    have e1 := hm b l1 hl1; have e2 := hm b' l2 hl2
    rw [hl] at e1; rw [hl'] at e2; cases e1; cases e2
    exact r.sep b b' k k' l l' hne hb ho hb' hl1 hl2
/-- Some of a memory's blocks, only to be read; no maps. -/
def Fz (h hz : Mem) : Prop := ∀ b k, hz.blk b = some k → ∃ k0, h.blk b = some k0 ∧ k0.sz ≠ 0 ∧ k = { k0 with own := false }
theorem HR.frz {B B' : Nat} {m : Mp} {h hz : Mem} {w : World} (r : HR B m h w) (z : Fz h hz) (hb : B' ≤ w.heap.size) : HR B' m hz w := by
  refine ⟨hb, fun b k hk => ?_, fun b b' k k' l l' hne hb ho hb' hl hl' => ?_⟩
  · obtain ⟨k0, h0, hs, rfl⟩ := z b k hk
    obtain ⟨l, hl, hh⟩ := r.held b k0 h0
    refine ⟨l, hl, ?_⟩
    cases hp : l.mp with
    | true => exact absurd (hh.m hp).gr.2 hs
    | false =>
      obtain ⟨⟨c, t, fz, h1, h2, h3, h4⟩, fit, own, sz⟩ := hh.c hp
      exact HeldC.h ⟨⟨c, t, fz, h1, h2, (fun h => nomatch h), h4⟩, fit, (fun h => nomatch h), sz⟩ hp
  · obtain ⟨k0, h0, hs, rfl⟩ := z b k hb
    cases ho
end

section
variable {P : Program} {T : FuncId → Option AF}

def NPost (B : Nat) (m : Mp) (n : Nat) (w : World) (d0 : List Deferred) (S : Ex → List AV → Mem → Nat → Prop) (e : Exit) (a : Act) (w' : World) : Prop :=
  ∃ x ts h nx, S x ts h nx ∧ CodePost B m n ⟨(x, ts), h, nx, 0, 0⟩ w d0 e a w'
/-- Whatever is drawn, this is known behind a piece of code. -/
def NC (P : Program) (c : Code) (ts : List AV) (h : Mem) (n : Nat) (S : Ex → List AV → Mem → Nat → Prop) : Prop :=
  ∀ {B : Nat} {m : Mp} {w : World} {a : Act} {Q : Exit → Act → World → Prop}, HR B m h w → VRs m ts a.tmps.toList → (∀ b, n ≤ b → m b = none) → (∀ e a' w', NPost B m n w a.defers S e a' w' → Q e a' w') → c.wp P Q a w

theorem free_ext {m m' : Mp} {n n' : Nat} (hf : ∀ b, n ≤ b → m b = none) (e : Ext m m' n n') (hn : n ≤ n') : ∀ b, n' ≤ b → m' b = none := fun b hb => by
  cases h : m' b with
  | none => rfl
  | some l =>
    rcases e.dom b (by rw [h]; exact fun h => nomatch h) with h1 | h1
    · exact absurd (hf b (by omega)) h1
    · omega

theorem NC.mono {c : Code} {ts : List AV} {h : Mem} {n : Nat} {S S' : Ex → List AV → Mem → Nat → Prop} (g : NC P c ts h n S) (hS : ∀ x ts h n, S x ts h n → S' x ts h n) : NC P c ts h n S' := fun hr ht hf hQ => g hr ht hf fun e a' w' ⟨x, ts', h', nx, s, cp⟩ => hQ e a' w' ⟨x, ts', h', nx, hS _ _ _ _ s, cp⟩

theorem NC.det (hT : TableOk P T) {c : Code} {ac : AC} (hc : compC P c = some ac) {fuel : Nat} {ts : List AV} {h : Mem} {n : Nat} {S : Ex → List AV → Mem → Nat → Prop} (p : Post (xC T fuel ac ts h n 0) fun r h' nx _ _ => S r.1 r.2 h' nx) : NC P c ts h n S := by
  intro B m w a Q hr ht hf hQ
  obtain ⟨r, h', nx, tc, wr, e, s⟩ := p.inv
  exact (code_sound hT fuel).1 c ac hc (Nat.zero_le n) e hr ht (fun b h1 _ => hf b h1) fun e a' w' cp => hQ e a' w' ⟨_, _, _, _, s, cp.logs⟩

theorem NC.seq {x y : Code} {ts : List AV} {h : Mem} {n : Nat} {S : Ex → List AV → Mem → Nat → Prop}
    (g : NC P x ts h n fun e ts' h' n' => match e with | .nor => NC P y ts' h' n' S | e => S e ts' h' n') : NC P (.seq x y) ts h n S := by
  intro B m w a Q hr ht hf hQ
  refine wp_seq (g hr ht hf fun e a' w' ⟨e1, ts', h', n', s, cp⟩ => ?_)
  obtain ⟨ex, df, le, below, m', g1, g2, g3⟩ := cp
  cases e1 with
  | nor =>
    cases e <;> simp only [ExR] at ex
    simp only [Exit.then]
    refine s g2 g3 (free_ext hf g1 le) fun e2 a2 w2 ⟨e3, ts2, h2, n2, s2, cp2⟩ => hQ _ _ _ ⟨e3, ts2, h2, n2, s2, ?_⟩
    rw [df] at cp2
    exact CodePost.trans g1 below le cp2
  | exit i =>
    cases e <;> simp only [ExR] at ex
    exact hQ _ _ _ ⟨_, _, _, _, s, ⟨ex, df, le, below, m', g1, g2, g3⟩⟩
  | ret =>
    cases e <;> simp only [ExR] at ex
    exact hQ _ _ _ ⟨_, _, _, _, s, ⟨ex, df, le, below, m', g1, g2, g3⟩⟩

/-- The first operations of a region in the order of the text. -/
theorem regRun_pre {call : FuncId → List AV → A AV} (hcall : CallS P call) (hft : ∀ f xs, Foot (call f xs)) {ops : Array Oper} {Q : Exit → Act → World → Prop} {d0 : List Deferred} {rest : List Oper} : ∀ (k : Nat) (os : List Oper) (rs : List AR), ops.toList.drop k = os ++ rest → compRs P ops os = some rs →
    ∀ {B : Nat} {m : Mp} {h : Mem} {w : World} {ts : List AV} {a : Act} {n lg : Nat} {s : Rs (List AV)}, lg ≤ n → regRun call rs ts h n lg = some s → HR B m h w → VRs m ts a.tmps.toList → Fresh m n s.nx → a.defers = d0 →
      (∀ m' a' w', Ext m m' n s.nx → HR B m' s.h w' → VRs m' s.v a'.tmps.toList → Below B w w' → n ≤ s.nx → a'.defers = d0 → wpOps P ops Q ((List.range ops.size).drop (k + os.length)) a' w') → wpOps P ops Q ((List.range ops.size).drop k) a w
  | k, [], rs, hos, hrs, B, m, h, w, ts, a, n, lg, s, hl, e, hr, ht, hf, hd, hQ => by
    cases hrs
    simp only [regRun] at e
    have e1 := A.ret_inv e; subst e1
    exact hQ m a w (Ext.refl m n) hr ht (Below.refl B w) (Nat.le_refl n) hd
  | k, o :: os, rs, hos, hrs, B, m, h, w, ts, a, n, lg, s, hl, e, hr, ht, hf, hd, hQ => by
    simp only [compRs] at hrs
    split at hrs <;> first | (cases hrs; done) | skip
    rename_i r rs' hr1 hr2
    cases hrs
    have hk : k < ops.size := by
      have := congrArg List.length hos; simp at this; omega
    have ho : ops[k]? = some o := by
      have : (ops.toList.drop k)[0]? = some o := by rw [hos]; rfl
      rw [List.getElem?_drop] at this
      simpa using this
    have hos' : ops.toList.drop (k + 1) = os ++ rest := by
      have : (ops.toList.drop k).drop 1 = os ++ rest := by rw [hos]; rfl
      rw [List.drop_drop] at this
      exact this
    simp only [regRun] at e
    obtain ⟨r1, r2, e1, e2, rfl⟩ := A.bind_inv e
    rw [show (List.range ops.size).drop k = k :: (List.range ops.size).drop (k + 1) by
      rw [List.drop_eq_getElem_cons (by simpa using hk)]; simp, wpOps_cons]
    have hle1 := (Foot.step hft ts r h n lg r1 hl e1).le
    have hle2 := (Foot.reg hft rs' _ r1.h r1.nx lg r2 (Nat.le_trans hl hle1) e2).le
    refine stepR_sound hcall ho hr1 hl e1 hr ht (fun b h1 h2 => hf b h1 (by simp only; omega)) fun m' u w' g1 g2 g3 g4 g5 => ?_
    have hd' : (a.put o.dst u).defers = d0 := by cases o.dst <;> exact hd
    refine regRun_pre hcall hft (k + 1) os rs' hos' hr2 (Nat.le_trans hl hle1) e2 g2 ?_ (Fresh.ext (n := n) hf g1 g5) hd' fun m2 a2 w2 q1 q2 q3 q4 q5 q6 => ?_
    · rw [(guard_same ht hr1).2.1]
      exact put_same hcall (VRs.mono g1.le _ _ ht) o.dst g3
    · rw [show k + 1 + os.length = k + (o :: os).length by simp; omega] at *
      exact hQ m2 a2 w2 (g1.trans q1 g5 q5) q2 q3 (g4.trans q4) (Nat.le_trans g5 q5) q6

/-- An operation without a guard that answers a value. -/
theorem wpOp_val {ops : Array Oper} {i : Nat} {o : Oper} (ho : ops[i]? = some o) (hg : o.guard = none) {a : Act} {w w' : World} {u : Value} (e : (execOp a.eval o).run P w = .ok (.value u) w') {K : Act → World → Prop} {Q : Exit → Act → World → Prop} (hK : K (a.put o.dst u) w') : wpOp P ops Q i K a w := by
  unfold wpOp
  simp only [ho]
  rw [show Region.wanted o (yielded ops a.tmps) = true by simp [Region.wanted, hg]]
  simp only [if_true]
  left
  unfold Oper.wp
  rw [e, Oper.upon_value]
  exact hK

/-! ### Code with ranges -/
inductive RC where
  | det (c : AC)
  | seq (a b : RC)
  /-- a region whose last operation begins to range over a map (x), the iterator in d; in block bid a loop: t1 the step, t2 whether there was one; in block bid1: t3 the entry, the region's rest, the body -/
  | rng (rs : List AR) (x : X) (d bid t1 t2 bid1 t3 : Nat) (rs9 : List AR) (body : AC)

def lastOf : List Oper → Option (List Oper × Oper)
  | [] => none
  | [o] => some ([], o)
  | o :: os => (lastOf os).map fun (a, b) => (o :: a, b)
theorem lastOf_eq : ∀ {l a : List Oper} {b : Oper}, lastOf l = some (a, b) → l = a ++ [b]
  | [], a, b, h => by cases h
  | [o], a, b, h => by cases h; rfl
  | o :: p :: os, a, b, h => by
    simp only [lastOf] at h
    obtain ⟨⟨x, y⟩, hx, he⟩ := Option.map_eq_some_iff.1 h
    cases he
    rw [lastOf_eq hx]; rfl

structure Rng where
  (d t1 t2 t3 : Nat)
  x : X
/-- Is it such a range? Its slots. -/
def rngOk (P : Program) (o on oe oent : Oper) : Option Rng :=
  match o.op, o.dst, o.guard, on.op, on.dst, on.guard, oe.op, oe.dst, oe.guard, oent.op, oent.dst, oent.guard with
  | .range mt x, some d, none, .next (.tmp d1) false, some t1, none, .extract (.tmp t1') 0, some t2, none, .entry (.tmp d2), some t3, none => match P.underlying mt, cX x with
    | some (.map _ _), some x => match Nat.beq d d1 && Nat.beq d d2 && Nat.beq t1 t1' && !Nat.beq d t1 && !Nat.beq d t2 with
      | true => some ⟨d, t1, t2, t3, x⟩
      | false => none
    | _, _ => none
  | _, _, _, _, _, _, _, _, _, _, _, _ => none

def rngC (P : Program) : Code → Option RC
  | .seq (.region _ ops false) (.block bid (.loop (.seq (.region _ ops8 false) (.seq (.cond (.tmp t2) .skip (.exit bid')) (.block bid1 (.seq (.region _ ops9 false) rest)))))) =>
    match lastOf ops.toList, ops8.toList, ops9.toList with
    | some (os, o), [on, oe], oent :: os9 => match rngOk P o on oe oent with
      | none => none
      | some r => match compRs P ops os, compRs P ops9 os9, compC P rest, Nat.beq bid bid' && Nat.beq t2 r.t2 with
        | some rs, some rs9, some c, true => some (.rng rs r.x r.d bid r.t1 r.t2 bid1 r.t3 rs9 c)
        | _, _, _, _ => none
    | _, _, _ => none
  | _ => none

def compR (P : Program) (c : Code) : Option RC := match compC P c with
  | some c => some (.det c)
  | none => match rngC P c with
    | some r => some r
    | none => match c with
      | .seq a b => match compR P a, compR P b with
        | some a, some b => some (.seq a b)
        | _, _ => none
      | _ => none

/-- What is asked of such code. -/
def RW (T : FuncId → Option AF) : RC → List AV → Mem → Nat → (Ex → List AV → Mem → Nat → Prop) → Prop
  | .det c, ts, h, n, S => ∃ fuel, Post (xC T fuel c ts h n 0) fun r h' nx _ _ => S r.1 r.2 h' nx
  | .seq a b, ts, h, n, S => RW T a ts h n fun e ts' h' n' => match e with | .nor => RW T b ts' h' n' S | e => S e ts' h' n'
  | .rng rs x d bid t1 t2 bid1 t3 rs9 body, ts, h, n, S => ∃ fuel, Post (regRun (callN T fuel) rs ts h n 0) fun ts1 h1 n1 _ _ =>
      ∃ b K hz, ∃ I : List AV → Prop, X.ev ts1 x = .map b ∧ h1.blk b = some K ∧ Fz h1 hz ∧ I (setT ts1 d (.ptr n1 0)) ∧
        (∀ ts2, I ts2 → sl ts2 d = .ptr n1 0 ∧ t1 < ts2.length ∧ t2 < ts2.length) ∧
        (∀ ts2 nn i kk vv, I ts2 → n1 < nn → K.cells[2 * i]? = some kk → K.cells[2 * i + 1]? = some vv →
          ∃ fuel, Post (xC T fuel (.seq (.reg rs9 false []) body) (setT (setT (setT ts2 t1 (.tup [.bool true, kk, vv])) t2 (.bool true)) t3 (.tup [kk, vv])) hz nn 0) fun r h' n' _ _ => (r.1 = .nor ∨ r.1 = .exit bid1) ∧ I r.2) ∧
        (∀ ts2 nn, I ts2 → n1 < nn → S .nor (setT (setT ts2 t1 (.tup [.bool false])) t2 (.bool false)) h1 nn)
end

section
variable {P : Program} {T : FuncId → Option AF}

theorem range_cons {ops : Array Oper} {o : Oper} {os : List Oper} (h : ops.toList = o :: os) : List.range ops.size = 0 :: (List.range ops.size).drop 1 ∧ ops[0]? = some o ∧ ops.toList.drop 1 = os ∧ (List.range ops.size).drop ops.size = [] := by
  have hs : ops.size = os.length + 1 := by have := congrArg List.length h; simpa using this
  refine ⟨?_, ?_, by rw [h]; rfl, by rw [List.drop_eq_nil_of_le (by simp)]⟩
  · have := List.drop_eq_getElem_cons (l := List.range ops.size) (i := 0) (by simp [hs])
    simpa using this
  · have : ops.toList[0]? = some o := by rw [h]; rfl
    simpa using this

/-- What is so at the head of the loop. -/
structure It (r bm ck n1 : Nat) (es : Array MapEntry) (hz : Mem) (m1 : Mp) (w1 : World) (d0 : List Deferred) (seen : Array Nat) (m2 : Mp) (nn : Nat) (ts : List AV) (a : Act) (w : World) : Prop where
  hr : HR (r + 1) m2 hz w
  ht : VRs m2 ts a.tmps.toList
  free : ∀ b, nn ≤ b → m2 b = none
  lt : n1 < nn
  ext : Ext m1 m2 n1 nn
  at1 : m2 n1 = some ⟨r, 0, 0, 0, false⟩
  low : ∀ b k l, hz.blk b = some k → m2 b = some l → l.blk < r
  iter : w.heap[r]? = some (.mapIter (some bm) ck seen ck)
  map : w.heap[bm]? = some (.map es ck)
  bel : Below r w1 w
  df : a.defers = d0

theorem It.put {r bm ck n1 : Nat} {es : Array MapEntry} {hz : Mem} {m1 : Mp} {w1 : World} {d0 : List Deferred} {seen : Array Nat} {m2 : Mp} {nn : Nat} {ts : List AV} {a : Act} {w : World} (i : It r bm ck n1 es hz m1 w1 d0 seen m2 nn ts a w) (t : Nat) {v : AV} {u : Value} (hv : VR m2 v u) :
    It r bm ck n1 es hz m1 w1 d0 seen m2 nn (setT ts t v) (a.put (some t) u) w :=
  { i with ht := by simp only [Act.put, Array.toList_setIfInBounds]; exact VRs.set hv t i.ht }

theorem It.step {r bm ck n1 : Nat} {es : Array MapEntry} {hz : Mem} {m1 : Mp} {w1 : World} {d0 : List Deferred} {seen : Array Nat} {m2 : Mp} {nn : Nat} {ts : List AV} {a : Act} {w w2 : World} (i : It r bm ck n1 es hz m1 w1 d0 seen m2 nn ts a w) (seen' : Array Nat) (hb : bm < r) (hw : w2 = w ∨ w2 = w.drew) :
    It r bm ck n1 es hz m1 w1 d0 seen' m2 nn ts a { w2 with heap := w2.heap.setIfInBounds r (.mapIter (some bm) ck seen' ck) } := by
  have hh : w2.heap = w.heap ∧ w2.os = w.os ∧ w2.tape = w.tape ∧ w2.output = w.output := by rcases hw with rfl | rfl <;> exact ⟨rfl, rfl, rfl, rfl⟩
  have hset := heap_set (o' := .mapIter (some bm) ck seen' ck) i.iter
  have he : ∀ j, j ≠ r → (w2.heap.setIfInBounds r (.mapIter (some bm) ck seen' ck))[j]? = w.heap[j]? := fun j hj => by rw [hh.1]; exact hset.2 j hj
  refine { i with hr := i.hr.poke r (by simp [hh.1]) (fun j hj _ => he j hj) (fun b k l hb hl => Nat.ne_of_lt (i.low b k l hb hl)), iter := by show (w2.heap.setIfInBounds r _)[r]? = _; rw [hh.1]; exact hset.1, map := by show (w2.heap.setIfInBounds r _)[bm]? = _; rw [he bm (by omega)]; exact i.map, bel := i.bel.trans ⟨hh.2.1, hh.2.2.1, hh.2.2.2, by simp [hh.1], fun k hk => he k (by omega)⟩ }

variable (hT : TableOk P T)

theorem rng_rounds (hT : TableOk P T) {r bm ck n1 : Nat} {es : Array MapEntry} {hz : Mem} {m1 : Mp} {w1 : World} {d0 : List Deferred} (hbm : bm < r) (hbn : Born es.toList ck) {K : List AV}
    {j k : Nat} {ops8 ops9 : Array Oper} {rest : Code} {on oe oent : Oper} {os9 : List Oper} {bid bid1 d t1 t2 t3 : Nat} {rs9 : List AR} {body : AC}
    (h8 : ops8.toList = [on, oe]) (h9 : ops9.toList = oent :: os9) (hon : on.op = .next (.tmp d) false) (hond : on.dst = some t1) (hong : on.guard = none)
    (hd1 : d ≠ t1) (hd2 : d ≠ t2) (hoe : oe.op = .extract (.tmp t1) 0) (hoed : oe.dst = some t2) (hoeg : oe.guard = none) (hot : oent.op = .entry (.tmp d)) (hotd : oent.dst = some t3) (hotg : oent.guard = none)
    (hr9 : compRs P ops9 os9 = some rs9) (hbody : compC P rest = some body)
    {I : List AV → Prop} (hI : ∀ ts2, I ts2 → sl ts2 d = .ptr n1 0 ∧ t1 < ts2.length ∧ t2 < ts2.length)
    (hKV : ∀ m2, m1.le m2 → VRs m2 K (kvs es.toList))
    (hB : ∀ ts2 nn i kk vv, I ts2 → n1 < nn → K[2 * i]? = some kk → K[2 * i + 1]? = some vv →
      ∃ fuel, Post (xC T fuel (.seq (.reg rs9 false []) body) (setT (setT (setT ts2 t1 (.tup [.bool true, kk, vv])) t2 (.bool true)) t3 (.tup [kk, vv])) hz nn 0) fun r h' n' _ _ => (r.1 = .nor ∨ r.1 = .exit bid1) ∧ I r.2)
    {Q : Exit → Act → World → Prop}
    (hQ : ∀ seen m2 nn ts2 a w, I ts2 → It r bm ck n1 es hz m1 w1 d0 seen m2 nn (setT (setT ts2 t1 (.tup [.bool false])) t2 (.bool false)) a w → Q .normal a w) :
    ∀ (N : Nat) (seen : Array Nat) (m2 : Mp) (nn : Nat) (ts2 : List AV) (a : Act) (w : World), It r bm ck n1 es hz m1 w1 d0 seen m2 nn ts2 a w → I ts2 → (leftOf es seen).size ≤ N →
      Code.rounds P (.seq (.region j ops8 false) (.seq (.cond (.tmp t2) .skip (.exit bid)) (.block bid1 (.seq (.region k ops9 false) rest)))) (Exit.inBlock bid Q) (N + 1) a w
  | N, seen, m2, nn, ts2, a, w, it, hIt, hN => by
    obtain ⟨hd, l1, l2⟩ := hI ts2 hIt
    rw [rounds_succ]
    refine wp_seq (wp_region ?_)
    obtain ⟨q1, q2, q3, _⟩ := range_cons h8
    rw [q1, wpOps_cons]
    have hlen := it.ht.length
    have hsz : a.tmps.size = ts2.length := by rw [← hlen]; simp
    have hev : a.eval (.tmp d) = .pointer (some ⟨r, 0, none⟩) := by
      have h1 := it.ht.getD d
      have h2 : VR m2 (sl ts2 d) (a.tmps.getD d undef) := by simpa [sl, Array.getD_eq_getD_getElem?, List.getD_eq_getElem?_getD] using h1
      rw [hd] at h2
      obtain ⟨l, hl, _, e⟩ := h2.ptr_inv
      rw [it.at1] at hl; cases hl
      show a.tmps.getD d undef = _
      rw [e]
    have hnext := run_next_at (P := P) w on.type it.iter it.map (fun x hx => hbn.2 x hx) (Nat.le_refl ck)
    have tail : ∀ {QQ : Exit → Act → World → Prop} (b : Bool) (xs : List AV) (us : List Value) (seen' : Array Nat) (w' : World), It r bm ck n1 es hz m1 w1 d0 seen' m2 nn ts2 a w' → VRs m2 xs us → (execOp a.eval on).run P w = .ok (.value (.tuple (.bool b :: us).toArray)) w' →
        (∀ a', It r bm ck n1 es hz m1 w1 d0 seen' m2 nn (setT (setT ts2 t1 (.tup (.bool b :: xs))) t2 (.bool b)) a' w' → a'.eval (.tmp t2) = .bool b → QQ .normal a' w') →
        wpOp P ops8 QQ 0 (wpOps P ops8 QQ ((List.range ops8.size).drop 1)) a w := by
      intro QQ b xs us seen' w' it' hxs hrun hgo
      refine wpOp_val q2 hong hrun ?_
      have hs2 : ops8.size = 2 := by have := congrArg List.length h8; simpa using this
      have hr2 : (List.range ops8.size).drop 1 = [1] := by rw [hs2]; rfl
      have ho1 : ops8[1]? = some oe := by
        have : ops8.toList[1]? = some oe := by rw [h8]; rfl
        simpa using this
      rw [hr2, wpOps_cons, hond]
      have hv1 : VR m2 (.tup (.bool b :: xs)) (.tuple (.bool b :: us).toArray) := by simp only [VR]; exact ⟨_, rfl, VRs.cons_iff.2 ⟨VR.bool b, hxs⟩⟩
      have it1 := it'.put t1 hv1
      have hev1 : (a.put (some t1) (.tuple (.bool b :: us).toArray)).eval (.tmp t1) = .tuple (.bool b :: us).toArray := by
        show (a.tmps.setIfInBounds t1 _).getD t1 undef = _
        simp [Array.getD_eq_getD_getElem?, hsz, l1]
      refine wpOp_val ho1 hoeg (u := .bool b) (w' := w') ?_ ?_
      · unfold execOp; rw [hoe]
        refine run_val ?_
        rw [hev1]
        simp [Instr.extract]
      · rw [hoed]
        have it2 := it1.put t2 (VR.bool b)
        refine hgo _ it2 ?_
        show (Array.setIfInBounds _ t2 _).getD t2 undef = _
        simp [Array.getD_eq_getD_getElem?, Act.put, hsz, l2]
    have hexec : ∀ (v : Value) (w' : World), (Instr.next (.pointer (some ⟨r, 0, none⟩)) false on.type).run P w = .ok v w' → (execOp a.eval on).run P w = .ok (.value v) w' := by
      intro v w' h
      unfold execOp; rw [hon]
      refine run_val ?_
      rw [hev]; exact h
    rcases hnext with ⟨h0, hrun⟩ | ⟨e, he, w2, hw2, hrun⟩
    · refine tail false [] [] seen w it VRs.nil (hexec _ _ hrun) fun a' it' ev' => ?_
      simp only [Exit.then]
      refine wp_seq (wp_cond_false ev' (wp_exit ?_))
      simp only [Exit.then, Exit.inBlock, if_true]
      exact hQ seen m2 nn ts2 a' w hIt it'
    · obtain ⟨he1, he2⟩ := mem_left he
      obtain ⟨i, hi, hie⟩ := List.getElem_of_mem he1
      have hget : es.toList[i]? = some e := by rw [List.getElem?_eq_getElem hi, hie]
      obtain ⟨hkey, hval⟩ := kvs_get es.toList i e hget
      have hkv := hKV m2 it.ext.le
      have hkl := VRs.of_kvs _ _ hkv
      obtain ⟨kk, hkk⟩ : ∃ kk, K[2 * i]? = some kk := ⟨_, List.getElem?_eq_getElem (by omega)⟩
      obtain ⟨vv, hvv⟩ : ∃ vv, K[2 * i + 1]? = some vv := ⟨_, List.getElem?_eq_getElem (by omega)⟩
      have hkr : VR m2 kk e.key := by
        obtain ⟨y, hy, hyr⟩ := hkv.get hkk
        rw [hkey] at hy; cases hy; exact hyr
      have hvr : VR m2 vv e.val := by
        obtain ⟨y, hy, hyr⟩ := hkv.get hvv
        rw [hval] at hy; cases hy; exact hyr
      have hkvr : VRs m2 [kk, vv] [e.key, e.val] := VRs.cons_iff.2 ⟨hkr, VRs.cons_iff.2 ⟨hvr, VRs.nil⟩⟩
      have itw := it.step (seen.push e.born) hbm hw2
      have hrunx := hexec _ _ hrun
      generalize ({ w2 with heap := w2.heap.setIfInBounds r (.mapIter (some bm) ck (seen.push e.born) ck) } : World) = W2 at itw hrunx
      refine tail true [kk, vv] [e.key, e.val] _ _ itw hkvr hrunx fun a' it' ev' => ?_
      simp only [Exit.then]
      refine wp_seq (wp_cond_true ev' (wp_skip ?_))
      simp only [Exit.then]
      refine wp_block (wp_seq (wp_region ?_))
      obtain ⟨p1, p2, p3, p4⟩ := range_cons h9
      rw [p1, wpOps_cons]
      have hslot : sl (setT (setT ts2 t1 (.tup [.bool true, kk, vv])) t2 (.bool true)) d = .ptr n1 0 := by
        rw [sl_ne (by simpa using Ne.symm hd2), sl_ne (by simpa using Ne.symm hd1)]; exact hd
      have hev2 : a'.eval (.tmp d) = .pointer (some ⟨r, 0, none⟩) := by
        have h1 := it'.ht.getD d
        have h2 : VR m2 (sl (setT (setT ts2 t1 (.tup [.bool true, kk, vv])) t2 (.bool true)) d) (a'.tmps.getD d undef) := by simpa [sl, Array.getD_eq_getD_getElem?, List.getD_eq_getElem?_getD] using h1
        rw [hslot] at h2
        obtain ⟨l, hl, _, e⟩ := h2.ptr_inv
        rw [it'.at1] at hl; cases hl
        show a'.tmps.getD d undef = _
        rw [e]
      have hent := run_entry_at (P := P) W2 it'.iter it'.map he1 hbn.nodup
      refine wpOp_val p2 hotg (u := .tuple #[e.key, e.val]) (w' := W2) ?_ ?_
      · unfold execOp; rw [hot]
        refine run_val ?_
        rw [hev2]; exact hent
      rw [hotd]
      have it3 := it'.put t3 (v := .tup [kk, vv]) (u := .tuple #[e.key, e.val]) (by simp only [VR]; exact ⟨_, rfl, hkvr⟩)
      obtain ⟨fuel, hpost⟩ := hB ts2 nn i kk vv hIt it.lt hkk hvv
      obtain ⟨rr, h', nx, tc, wr, hrun9, hnor, hI9⟩ := hpost.inv
      cases fuel with
      | zero => unfold xC at hrun9; simp [A.fail] at hrun9
      | succ fuel =>
      unfold xC at hrun9
      obtain ⟨r1, r2, e1, e2, hrr⟩ := A.bind_inv hrun9
      cases hrr
      cases fuel with
      | zero => unfold xC at e1; simp [A.fail] at e1
      | succ fuel =>
      unfold xC at e1
      obtain ⟨r3, r4, e3, e4, rfl⟩ := A.bind_inv e1
      have e5 := A.ret_inv e4; subst e5
      simp only at e2
      have hcall : CallS P (callN T fuel) := call_of_code hT (code_sound hT fuel).1
      have hft := callN_foot T fuel
      have hle3 := (Foot.reg hft rs9 _ _ _ 0 r3 (Nat.zero_le _) e3).le
      refine regRun_sound (P := P) hcall hft (ops := ops9) (d0 := d0) 1 os9 rs9 p3 hr9 (Nat.zero_le nn) e3 it3.hr it3.ht (fun b h1 _ => it3.free b h1) it3.df fun m4 a4 w4 x1 x2 x3 x4 x5 x6 => ?_
      simp only [Exit.then]
      have free4 := free_ext it3.free x1 hle3
      refine (code_sound hT (fuel + 1)).1 rest body hbody (Nat.zero_le _) e2 x2 x3 (fun b h1 _ => free4 b h1) fun e6 a6 w6 cp => ?_
      obtain ⟨ex, df, le, below, m6, y1, y2, y3⟩ := cp
      have hle6 : nn ≤ r2.nx := Nat.le_trans hle3 le
      have bel6 := x4.trans below
      have ext6 : Ext m2 m6 nn r2.nx := x1.trans y1 hle3 le
      have it6 : It r bm ck n1 es hz m1 w1 d0 (seen.push e.born) m6 r2.nx r2.v.2 a6 w6 :=
        { hr := it3.hr.later ext6.le bel6.size (fun b k l hb hl => bel6.block _ (Nat.lt_succ_of_lt (it3.low b k l hb hl)))
          ht := y3
          free := free_ext free4 y1 le
          lt := Nat.lt_of_lt_of_le it3.lt hle6
          ext := it3.ext.trans ext6 (Nat.le_of_lt it3.lt) hle6
          at1 := ext6.le _ _ it3.at1
          low := fun b k l hb hl => by
            obtain ⟨l', hl', _⟩ := it3.hr.held b k hb
            have := ext6.le _ _ hl'
            rw [hl] at this; cases this
            exact it3.low b k l hb hl'
          iter := (bel6.block r (Nat.lt_succ_self r)).trans it3.iter
          map := (bel6.block bm (by omega)).trans it3.map
          bel := it3.bel.trans (bel6.mono (Nat.le_succ r))
          df := by rw [df, x6] }
      have hpos : (leftOf es seen).size ≠ 0 := fun h => by
        have : (leftOf es seen).toList = [] := List.eq_nil_of_length_eq_zero (by simpa using h)
        rw [this] at he; cases he
      have hsh := left_shrinks es seen e he
      obtain ⟨N', rfl⟩ : ∃ N', N = N' + 1 := ⟨N - 1, by omega⟩
      have again := rng_rounds hT hbm hbn (j := j) (k := k) (bid := bid) (bid1 := bid1) h8 h9 hon hond hong hd1 hd2 hoe hoed hoeg hot hotd hotg hr9 hbody hI hKV hB hQ N' (seen.push e.born) m6 r2.nx r2.v.2 a6 w6 it6 hI9 (by omega)
      rcases hnor with hx | hx
      · rw [show r2.v.1 = .nor from hx] at ex
        cases e6 <;> simp only [ExR] at ex
        simp only [Exit.then, Exit.inBlock]
        exact again
      · rw [show r2.v.1 = .exit bid1 from hx] at ex
        cases e6 <;> simp only [ExR] at ex
        subst ex
        simp only [Exit.then, Exit.inBlock, if_true]
        exact again

end

section
variable {P : Program} {T : FuncId → Option AF}

theorem rngOk_inv {o on oe oent : Oper} {r : Rng} (h : rngOk P o on oe oent = some r) :
    ∃ mt x k el, o.op = .range mt x ∧ o.dst = some r.d ∧ o.guard = none ∧ P.underlying mt = some (.map k el) ∧ cX x = some r.x ∧ on.op = .next (.tmp r.d) false ∧ on.dst = some r.t1 ∧ on.guard = none ∧
      oe.op = .extract (.tmp r.t1) 0 ∧ oe.dst = some r.t2 ∧ oe.guard = none ∧ oent.op = .entry (.tmp r.d) ∧ oent.dst = some r.t3 ∧ oent.guard = none ∧ r.d ≠ r.t1 ∧ r.d ≠ r.t2 := by
  unfold rngOk at h
  split at h <;> first | (cases h; done) | skip
  rename_i mt x d d1 t1 t1' t2 d2 t3 h1 h2 h3 h4 h5 h6 h7 h8 h9 h10 h11 h12
  split at h <;> first | (cases h; done) | skip
  rename_i k el x' hu hx
  split at h <;> first | (cases h; done) | skip
  rename_i hb
  cases h
  simp only [Bool.and_eq_true, Bool.not_eq_true'] at hb
  obtain ⟨⟨⟨⟨a1, a2⟩, a3⟩, a4⟩, a5⟩ := hb
  have a1 := Nat.eq_of_beq_eq_true a1; have a2 := Nat.eq_of_beq_eq_true a2; have a3 := Nat.eq_of_beq_eq_true a3
  subst a1; subst a2; subst a3
  exact ⟨mt, x, k, el, h1, h2, h3, hu, hx, h4, h5, h6, h7, h8, h9, h10, h11, h12, Nat.ne_of_beq_eq_false a4, Nat.ne_of_beq_eq_false a5⟩

theorem rng_sound (hT : TableOk P T) {c : Code} {rs : List AR} {x : X} {d bid t1 t2 bid1 t3 : Nat} {rs9 : List AR} {body : AC} (hc : rngC P c = some (.rng rs x d bid t1 t2 bid1 t3 rs9 body)) {ts : List AV} {h : Mem} {n : Nat} {S : Ex → List AV → Mem → Nat → Prop}
    (g : RW T (.rng rs x d bid t1 t2 bid1 t3 rs9 body) ts h n S) : NC P c ts h n S := by
  unfold rngC at hc
  split at hc <;> first | (cases hc; done) | skip
  rename_i i1 ops bid i2 ops8 t2' bid' bid1 i3 ops9 rest
  split at hc <;> first | (cases hc; done) | skip
  rename_i os o on oe oent os9 hlast h8 h9
  split at hc <;> first | (cases hc; done) | skip
  rename_i R hR
  split at hc <;> first | (cases hc; done) | skip
  rename_i rs rs9 cb hrs hrs9 hcb hbt
  cases hc
  obtain ⟨mt, xo, kt, el, ho, hod, hog, hu, hx, hon, hond, hong, hoe, hoed, hoeg, hot, hotd, hotg, hd1, hd2⟩ := rngOk_inv hR
  rw [Bool.and_eq_true] at hbt
  have e1 := Nat.eq_of_beq_eq_true hbt.1; have e2 := Nat.eq_of_beq_eq_true hbt.2
  subst e1; subst e2
  obtain ⟨fuel, hp⟩ := g
  obtain ⟨ts1, h1, n1, tc, wr, hrun, b, K, hz, I, hxv, hK, hfz, hI0, hI, hB, hS⟩ := hp.inv
  intro B m w a Q hr ht hf hQ
  have hcall : CallS P (callN T fuel) := call_of_code hT (code_sound hT fuel).1
  have hft := callN_foot T fuel
  refine wp_seq (wp_region ?_)
  have hops := lastOf_eq hlast
  have hpre := regRun_pre (P := P) hcall hft (ops := ops) (d0 := a.defers) (rest := [o]) (Q := Exit.then (Code.wp P (.block bid (.loop (.seq (.region i2 ops8 false) (.seq (.cond (.tmp R.t2) .skip (.exit bid)) (.block bid1 (.seq (.region i3 ops9 false) rest)))))) Q) Q) 0 os rs (by simpa using hops) hrs (Nat.zero_le n) hrun hr ht (fun b h1 _ => hf b h1) rfl
  rw [List.drop_zero] at hpre
  refine hpre fun m1 a1 w1 g1 g2 g3 g4 g5 g6 => ?_
  simp only at g1 g2 g3 g5
  have hsz : ops.size = os.length + 1 := by have := congrArg List.length hops; simpa using this
  rw [Nat.zero_add, show (List.range ops.size).drop os.length = [os.length] by
    rw [hsz, List.range_succ]; simp, wpOps_cons]
  have hao : ops[os.length]? = some o := by
    have : ops.toList[os.length]? = some o := by rw [hops]; simp
    simpa using this
  have hxr := cX_sound g3 hx
  rw [hxv] at hxr
  obtain ⟨l, hl, hm, hval⟩ := hxr.map_inv
  obtain ⟨⟨es, ck, q1, q2, q3⟩, _, _, _⟩ := g2.atM hK hl hm
  refine wpOp_val hao hog (u := .pointer (some ⟨w1.heap.size, 0, none⟩)) (w' := w1.alloc (.mapIter (some l.blk) ck #[] ck)) ?_ ?_
  · unfold execOp; rw [ho]
    refine run_val ?_
    rw [hval]
    exact run_range_map w1 mt kt el l.blk es ck hu q1
  rw [hod]
  simp only [wpOps, Exit.then]
  have f1 := free_ext hf g1 g5
  have hlt := g2.lt hK hl
  have hn1 := f1 n1 (Nat.le_refl n1)
  have hup := Ext.up m1 n1 ⟨w1.heap.size, 0, 0, 0, false⟩ hn1
  have halloc := heap_alloc w1 (.mapIter (some l.blk) ck #[] ck)
  have hs1 : (w1.alloc (.mapIter (some l.blk) ck #[] ck)).heap.size = w1.heap.size + 1 := by show (w1.heap.push _).size = _; rw [Array.size_push]
  have it : It w1.heap.size l.blk ck n1 es hz m1 w1 a.defers #[] (m1.up n1 ⟨w1.heap.size, 0, 0, 0, false⟩) (n1 + 1) (setT ts1 R.d (.ptr n1 0)) (a1.put (some R.d) (.pointer (some ⟨w1.heap.size, 0, none⟩))) (w1.alloc (.mapIter (some l.blk) ck #[] ck)) :=
    { hr := ((g2.later (m' := m1.up n1 ⟨w1.heap.size, 0, 0, 0, false⟩) hup.le (by rw [hs1]; omega) (fun b k l' hb hl' => halloc.2 _ (g2.lt hb hl'))).frz hfz (by rw [hs1]; exact Nat.le_refl _))
      ht := by
        simp only [Act.put, Array.toList_setIfInBounds]
        exact VRs.set (by simp only [VR]; exact ⟨_, up_at .., rfl, rfl⟩) R.d (VRs.mono hup.le _ _ g3)
      free := free_ext f1 hup (Nat.le_succ n1)
      lt := Nat.lt_succ_self n1
      ext := hup
      at1 := up_at ..
      low := fun b k l' hb hl' => by
        obtain ⟨k0, h0, _, _⟩ := hfz b k hb
        obtain ⟨l2, hl2, hh⟩ := g2.held b k0 h0
        have := hup.le _ _ hl2
        rw [hl'] at this; cases this
        exact hh.lt
      iter := halloc.1
      map := (halloc.2 _ hlt).trans q1
      bel := (Below.refl _ w1).alloc (Nat.le_refl _) _
      df := g6 }
  refine wp_block (wp_loop_rounds ((leftOf es #[]).size + 1) ?_)
  refine rng_rounds hT hlt q3 (K := K.cells) h8 h9 hon hond hong hd1 hd2 hoe hoed hoeg hot hotd hotg hrs9 hcb hI (fun m2 hm2 => VRs.mono hm2 _ _ q2) hB ?_ _ #[] _ _ _ _ _ it hI0 (Nat.le_refl _)
  intro seen m2 nn ts2 a2 w2 hI2 it2
  refine hQ .normal a2 w2 ⟨.nor, _, h1, nn, hS ts2 nn hI2 it2.lt, ?_⟩
  exact ⟨trivial, it2.df, Nat.le_trans g5 (Nat.le_of_lt it2.lt), g4.trans (it2.bel.mono g2.base), m2, g1.trans it2.ext g5 (Nat.le_of_lt it2.lt), g2.later it2.ext.le it2.bel.size (fun b k l' hb hl' => it2.bel.block _ (g2.lt hb hl')), it2.ht⟩

theorem RW.mono : ∀ (c : RC) {ts : List AV} {h : Mem} {n : Nat} {S S' : Ex → List AV → Mem → Nat → Prop}, RW T c ts h n S → (∀ x ts h n, S x ts h n → S' x ts h n) → RW T c ts h n S'
  | .det c, ts, h, n, S, S', ⟨fuel, p⟩, hS => ⟨fuel, p.mono fun r h' nx _ _ s => hS _ _ _ _ s⟩
  | .seq a b, ts, h, n, S, S', g, hS => by
    refine RW.mono a g fun x ts h n s => ?_
    cases x with
    | nor => exact RW.mono b s hS
    | exit i => exact hS _ _ _ _ s
    | ret => exact hS _ _ _ _ s
  | .rng rs x d bid t1 t2 bid1 t3 rs9 body, ts, h, n, S, S', ⟨fuel, p⟩, hS =>
    ⟨fuel, p.mono fun r h' nx _ _ ⟨b, K, hz, I, q1, q2, q3, q4, q5, q6, q7⟩ => ⟨b, K, hz, I, q1, q2, q3, q4, q5, q6, fun ts2 nn i1 i2 => hS _ _ _ _ (q7 ts2 nn i1 i2)⟩⟩

theorem RW.ds {c : AC} {rest : RC} {ts : List AV} {h : Mem} {n : Nat} {S : Ex → List AV → Mem → Nat → Prop} (fuel : Nat) (p : Post (xC T fuel c ts h n 0) fun r h' nx _ _ => r.1 = .nor ∧ RW T rest r.2 h' nx S) : RW T (.seq (.det c) rest) ts h n S :=
  ⟨fuel, p.mono fun r h' nx _ _ ⟨e, g⟩ => by rw [e]; exact g⟩
theorem RW.rs {rs : List AR} {x : X} {d bid t1 t2 bid1 t3 : Nat} {rs9 : List AR} {body : AC} {rest : RC} {ts : List AV} {h : Mem} {n : Nat} {S : Ex → List AV → Mem → Nat → Prop} (fuel : Nat)
    (p : Post (regRun (callN T fuel) rs ts h n 0) fun ts1 h1 n1 _ _ =>
      ∃ b K hz, ∃ I : List AV → Prop, X.ev ts1 x = .map b ∧ h1.blk b = some K ∧ Fz h1 hz ∧ I (setT ts1 d (.ptr n1 0)) ∧
        (∀ ts2, I ts2 → sl ts2 d = .ptr n1 0 ∧ t1 < ts2.length ∧ t2 < ts2.length) ∧
        (∀ ts2 nn i kk vv, I ts2 → n1 < nn → K.cells[2 * i]? = some kk → K.cells[2 * i + 1]? = some vv →
          ∃ fuel, Post (xC T fuel (.seq (.reg rs9 false []) body) (setT (setT (setT ts2 t1 (.tup [.bool true, kk, vv])) t2 (.bool true)) t3 (.tup [kk, vv])) hz nn 0) fun r h' n' _ _ => (r.1 = .nor ∨ r.1 = .exit bid1) ∧ I r.2) ∧
        (∀ ts2 nn, I ts2 → n1 < nn → RW T rest (setT (setT ts2 t1 (.tup [.bool false])) t2 (.bool false)) h1 nn S)) : RW T (.seq (.rng rs x d bid t1 t2 bid1 t3 rs9 body) rest) ts h n S := ⟨fuel, p⟩
theorem RW.de {c : AC} {ts : List AV} {h : Mem} {n : Nat} {S : Ex → List AV → Mem → Nat → Prop} (fuel : Nat) (p : Post (xC T fuel c ts h n 0) fun r h' nx _ _ => S r.1 r.2 h' nx) : RW T (.det c) ts h n S := ⟨fuel, p⟩

theorem compR_sound (hT : TableOk P T) : ∀ (c : Code) (rc : RC), compR P c = some rc → ∀ {ts : List AV} {h : Mem} {n : Nat} {S : Ex → List AV → Mem → Nat → Prop}, RW T rc ts h n S → NC P c ts h n S := by
  intro c
  induction c with
  | seq a b iha ihb =>
    intro rc hc ts h n S g
    unfold compR at hc
    split at hc
    · rename_i ac hac
      cases hc
      obtain ⟨fuel, p⟩ := g
      exact NC.det hT hac p
    · split at hc
      · rename_i r hr
        cases hc
        obtain ⟨rs, x, d, bid, t1, t2, bid1, t3, rs9, body, rfl⟩ : ∃ rs x d bid t1 t2 bid1 t3 rs9 body, rc = .rng rs x d bid t1 t2 bid1 t3 rs9 body := by
          unfold rngC at hr
          split at hr <;> first | (cases hr; done) | skip
          split at hr <;> first | (cases hr; done) | skip
          split at hr <;> first | (cases hr; done) | skip
          split at hr <;> first | (cases hr; done) | skip
          cases hr
          exact ⟨_, _, _, _, _, _, _, _, _, _, rfl⟩
        exact rng_sound hT hr g
      · simp only at hc
        split at hc <;> first | (cases hc; done) | skip
        rename_i ra rb hra hrb
        cases hc
        refine NC.seq (iha ra hra (RW.mono ra g fun x ts' h' n' s => ?_))
        cases x with
        | nor => exact ihb rb hrb s
        | exit i => exact s
        | ret => exact s
  | _ =>
    intro rc hc ts h n S g
    unfold compR at hc
    split at hc
    · rename_i ac hac
      cases hc
      obtain ⟨fuel, p⟩ := g
      exact NC.det hT hac p
    · simp [rngC] at hc

/-- A function whose text ranges over a map: its slots, the slot of its answer, its text. -/
def compG (P : Program) (f : FuncId) : Option (Nat × Nat × RC) := match P.funcs[f]? with
  | none => none
  | some fn => match fn.body with
    | none => none
    | some c => match compR P c, compRes P fn.results.toList with
      | some rc, some [.tmp k] => some (fn.ntmps, k, rc)
      | _, _ => none
def YesN (P : Program) (T : FuncId → Option AF) (f : FuncId) (args : List AV) (h : Mem) (n : Nat) : Prop :=
  ∃ nt k rc, compG P f = some (nt, k, rc) ∧ RW T rc (frame nt args) h n fun x ts _ _ => (x = .nor ∨ x = .ret) ∧ sl ts k = .bool true

theorem calls_of_yesN (hT : TableOk P T) {f : FuncId} {xs : List AV} {vals : List Value} {m : Mp} {B : Nat} {h : Mem} {w : World} {n : Nat} (hr : HR B m h w) (hv : VRs m xs vals) (hf : ∀ b, n ≤ b → m b = none) (y : YesN P T f xs h n) :
    Calls P f vals.toArray w fun e w' => e = .returned (.bool true) ∧ Below B w w' := by
  obtain ⟨nt, k, rc, hc, g⟩ := y
  unfold compG at hc
  split at hc <;> first | (cases hc; done) | skip
  rename_i fn hfn
  split at hc <;> first | (cases hc; done) | skip
  rename_i c hbody
  split at hc <;> first | (cases hc; done) | skip
  rename_i rc' k' hrc hres
  cases hc
  refine calls_of_wp hfn hbody ?_
  have hargs : VRs m (frame fn.ntmps xs) (vals.toArray ++ Array.replicate (fn.ntmps - vals.toArray.size) undef).toList := by
    have hl := hv.length
    unfold frame
    simp only [Array.toList_append, Array.toList_replicate, List.size_toArray, hl]
    exact VRs.append hv (VRs.replicate VR.undef _)
  refine compR_sound hT c rc hrc g hr hargs hf ?_
  rintro e a' w' ⟨x, ts, h', nx, ⟨hx, hk⟩, ex, df, le, below, m', g1, g2, g3⟩
  have hres2 : resAll ts [.tmp k] h' nx 0 = some ⟨[sl ts k], h', nx, 0, 0⟩ := by simp [resAll, resA, A.bind, A.ret, sl]
  obtain ⟨u, hu, hvu, _, _⟩ := results_run (P := P) g2 g3 hres hres2
  have hvu' : VR m' (sl ts k) u := hvu
  rw [hk] at hvu'
  have fin : a'.defers = [] ∧ ∃ v, (results fn a'.tmps).run P w' = .ok v w' ∧ (Ending.returned v = .returned (.bool true) ∧ Below B w w') := ⟨df, u, hu, by rw [hvu'.bool_inv], below⟩
  rcases hx with rfl | rfl
  · cases e <;> simp only [ExR] at ex
    exact fin
  · cases e <;> simp only [ExR] at ex
    exact fin

theorem law_callsN (hT : TableOk P T) (f : FuncId) (as : List Arg) (w : World) (hok : ∀ a ∈ as, a.ok w) (e : YesN P T f (Arg.av as 0) (Arg.mem as 0 Mem.empty) (Arg.nx as 0)) :
    Calls P f (as.map Arg.val).toArray w fun e w' => e = .returned (.bool true) ∧ Below w.heap.size w w' := by
  obtain ⟨m, g1, g2, g3, g4⟩ := Arg.laid (B := w.heap.size) as 0 Mem.empty (fun _ => none) hok ⟨Nat.le_refl _, (fun b k hb => by rw [Mem.blk_empty] at hb; cases hb), (fun b b' k k' l l' hne hb => by rw [Mem.blk_empty] at hb; cases hb)⟩
    (fun b k hb => by rw [Mem.blk_empty] at hb; cases hb) (fun b _ => rfl)
  exact calls_of_yesN hT g2 g3 g4 e
end
end Go.Proofs.YtadenjdkknakgaaE

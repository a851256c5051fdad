/- The engine, part 16: functions of the model as the engine has them; one operation of a region; a region in the order of the text. -/
import Derived.Test.YtamfoplfbidolaaGreatDoorE15
import Derived.LoopN
import Derived.Tactics
namespace Go.Proofs.YtamfoplfbidolaaGreatDoorE
open Go Go.RowKit
set_option linter.unusedVariables false
set_option linter.unusedSimpArgs false
set_option linter.unusedSectionVars false

def compAR (P : Program) (ops : Array Oper) (o : Oper) : Option AR :=
  match comp P o with
  | none => none
  | some op => match o.guard with
    | none => some ⟨o.dst, none, op⟩
    | some (j, want) => match (ops[j]?).bind (·.dst) with
      | none => none
      | some t => some ⟨o.dst, some (t, want), op⟩
def compRs (P : Program) (ops : Array Oper) : List Oper → Option (List AR)
  | [] => some []
  | o :: os => match compAR P ops o, compRs P ops os with
    | some r, some rs => some (r :: rs)
    | _, _ => none

/-- Temporaries that a guarded operation reads. -/
def AR.rd (r : AR) : List Nat := (match r.guard with | none => [] | some (t, _) => [t]) ++ r.op.rd
def AR.clash (a b : AR) : Bool := match a.dst with
  | none => false
  | some d => b.rd.contains d || (b.dst == some d)
/-- May the earlier operations that are not ordered ahead of one be exchanged with it, as to temporaries? -/
def tmpsFrom (bj : Nat) (rj : AR) : Nat → List AR → Bool
  | _, [] => true
  | i, r :: rs => (Nat.testBit bj i || (!AR.clash r rj && !AR.clash rj r)) && tmpsFrom bj rj (i + 1) rs
def tmpsOk : List AR → List Nat → List AR → Bool
  | _, _, [] => true
  | done, b :: bs, r :: rs => tmpsFrom b r 0 done && tmpsOk (done ++ [r]) bs rs
  | _, [], _ :: _ => false
/-- What the edges of an operation say comes before it. -/
def upBits (bef : List Nat) : List Edge → Nat
  | [] => 0
  | e :: es => match Region.binds .any e with
    | true => 2 ^ e.on ||| bef.getD e.on 0 ||| upBits bef es
    | false => upBits bef es
def edgesOk (bef : List Nat) : Nat → List Oper → Bool
  | _, [] => true
  | i, o :: os => (Nat.beq (bef.getD i 0 ||| upBits bef o.after.toList) (upBits bef o.after.toList)) && (o.after.toList.all fun e => !Region.binds .any e || Nat.blt e.on i) && edgesOk bef (i + 1) os

def compC (P : Program) : Code → Option AC
  | .skip => some .skip
  | .label _ => some .skip
  | .region id ops draw => match compRs P ops ops.toList with
    | none => none
    | some rs => match draw with
      | false => some (.reg rs false [])
      | true => match edgesOk (Region.before ops).toList 0 ops.toList && tmpsOk [] (Region.before ops).toList rs && P.follows .mixedOrders with
        | true => some (.reg rs true (Region.before ops).toList)
        | false => none
  | .seq a b => match compC P a, compC P b with
    | some a, some b => some (.seq a b)
    | _, _ => none
  | .cond c a b => match cX c, compC P a, compC P b with
    | some c, some a, some b => some (.cond c a b)
    | _, _, _ => none
  | .block id c => (compC P c).map (.blk id)
  | .loop c => (compC P c).map .loop
  | .exit id => some (.exit id)
  | .ret => some .ret
  | _ => none

def compRes (P : Program) : List ResultVar → Option (List ARes)
  | [] => some []
  | .tmp t :: rs => (compRes P rs).map fun l => .tmp t :: l
  | .cell a t :: rs => match nOf P t, compRes P rs with
    | some n, some l => some (.cell a n :: l)
    | _, _ => none
def compF (P : Program) (f : FuncId) : Option AF :=
  match P.funcs[f]? with
  | none => none
  | some fn => match fn.body with
    | none => none
    | some c => match compC P c, compRes P fn.results.toList, fn.name == "runtime.NumGoroutine" with
      | some c, some rs, false => some ⟨fn.ntmps, rs, c⟩
      | _, _, _ => none

/-- The table says of each function what the model's text is. -/
def TableOk (P : Program) (T : FuncId → Option AF) : Prop := ∀ f F, T f = some F → compF P f = some F

/-! ### Calls -/
def CallPost (B : Nat) (m : Mp) (n : Nat) (r : Rs AV) (w : World) (e : Ending) (w' : World) : Prop :=
  ∃ m' u, e = .returned u ∧ Ext m m' n r.nx ∧ HR B m' r.h w' ∧ VR m' r.v u ∧ Below B w w' ∧ n ≤ r.nx
def CallS (P : Program) (call : FuncId → List AV → A AV) : Prop := ∀ f xs h n lg r vals m B w, lg ≤ n → call f xs h n lg = some r → HR B m h w → VRs m xs vals → Fresh m n r.nx →
  (∃ fn, P.funcs[f]? = some fn ∧ (fn.name == "runtime.NumGoroutine") = false ∧ fn.body.isSome = true) ∧ Calls P f vals.toArray w (CallPost B m n r w)

theorem comp_call0 {P : Program} {o : Oper} {ao : AOp} (h : comp0 P o = some ao) (ic : isCall ao = true) :
    ∃ c xs, o.op = .call c ∧ cXs c.args.toList = some xs ∧
      ((∃ f, ao = .call f xs ∧ c.callee = .value (.func f)) ∨ (∃ x x', ao = .callv x' xs ∧ c.callee = .value x ∧ cX x = some x') ∨ (∃ x x' name, ao = .inv (rowsOf P name) x' xs ∧ c.callee = .invoke x name ∧ cX x = some x')) := by
  cases ho : o.op
  case call c =>
    simp only [comp0, ho] at h
    split at h <;> first | (cases h; done) | skip
    rename_i ys hys
    refine ⟨c, ys, rfl, hys, ?_⟩
    split at h <;> first | (cases h; done) | skip
    · rename_i f' hb
      split at h <;> first | (cases h; done) | skip
      rename_i fn hf
      split at h <;> first | (cases h; done) | skip
      · cases h
        exact .inl ⟨f', rfl, hb⟩
      · split at h <;> first | (cases h; done) | skip
        obtain ⟨x, y, _, rfl⟩ := cntA_some h
        cases ic
    · rename_i x hnf hb
      obtain ⟨x', hx, rfl⟩ := Option.map_eq_some_iff.1 h
      exact .inr (.inl ⟨x, x', rfl, hb, hx⟩)
    · rename_i x name hb
      obtain ⟨x', hx, rfl⟩ := Option.map_eq_some_iff.1 h
      exact .inr (.inr ⟨x, x', name, rfl, hb, hx⟩)
    · exfalso
      (repeat' split at h) <;> first | (cases h; cases ic; done) | (cases h; done) | (obtain ⟨_, _, rfl⟩ := Option.map_eq_some_iff.1 h; cases ic; done)
  all_goals
    exfalso
    simp only [comp0, ho] at h
    (repeat' split at h) <;> first | (cases h; cases ic; done) | (cases h; done) | (obtain ⟨_, _, rfl⟩ := Option.map_eq_some_iff.1 h; cases ic; done)

theorem comp_call {P : Program} {o : Oper} {ao : AOp} (h : comp P o = some ao) (ic : isCall ao = true) :
    ∃ c xs, o.op = .call c ∧ cXs c.args.toList = some xs ∧
      ((∃ f, ao = .call f xs ∧ c.callee = .value (.func f)) ∨ (∃ x x', ao = .callv x' xs ∧ c.callee = .value x ∧ cX x = some x') ∨ (∃ x x' name, ao = .inv (rowsOf P name) x' xs ∧ c.callee = .invoke x name ∧ cX x = some x')) := by
  unfold comp at h
  cases h0 : comp0 P o with
  | none =>
    rw [h0] at h
    simp only [Option.getD_none, Option.some.injEq] at h
    subst h
    cases ic
  | some ao' =>
    rw [h0] at h
    simp only [Option.getD_some, Option.some.injEq] at h
    subst h
    exact comp_call0 h0 ic

section
variable {P : Program}
theorem method_none {name : String} {t : TypeId} {f : FuncId} (h : rowOf P name t = some (none, f)) (v : Value) (w : World) : (method (P.types.size + Made.depth) t v name).run P w = .ok (f, v) w := by
  obtain ⟨k, hk⟩ : ∃ k, P.types.size + Made.depth = k + 1 := ⟨P.types.size + Made.depth - 1, by unfold Made.depth; omega⟩
  rw [hk]
  unfold rowOf at h
  split at h <;> first | (cases h; done) | skip
  rename_i i hi
  split at h <;> first | (cases h; done) | skip
  rename_i mm hm
  split at h <;> first | (cases h; done) | skip
  rename_i g pr hfn
  split at h <;> first | (cases h; done) | skip
  · rename_i hpath
    have fin : ∀ d pr', P.underlying t = some d → pr = pr' → (receiverAt t (.val v) pr' (if mm.path.isEmpty then some ((name.splitOn ".").getLastD name) else none)).run P w = .ok v w → some ((none : Option Nat), g) = some (none, f) → (method (k + 1) t v name).run P w = .ok (f, v) w := by
      intro d pr' hd hpr hrec hh
      cases hh
      subst hpr
      simp only [method, Sem.run_bind, typeInfo, run_program, Result.andThen_ok, hi, Sem.run_pure, hm, hpath, follow, hfn, hrec]
    split at h <;> first | (cases h; done) | skip
    all_goals
      rename_i hd
      refine fin _ _ hd rfl ?_ h
      simp [receiverAt, run_und hd, Place.get]
  · split at h <;> first | (cases h; done) | skip
    split at h <;> first | (cases h; done) | skip
    split at h <;> first | (cases h; done) | skip
theorem method_at {B : Nat} {m : Mp} {h : Mem} {w : World} (hr : HR B m h w) {name : String} {t : TypeId} {f : FuncId} {d b off : Nat} (hrow : rowOf P name t = some (some d, f)) {v : Value} (hv : VR m (.ptr b off) v) {K : Blk} (hK : h.blk b = some K) {u : AV} (hu : K.cells[off + d]? = some u) :
    ∃ uv, (method (P.types.size + Made.depth) t v name).run P w = .ok (f, uv) w ∧ VR m u uv := by
  obtain ⟨k, hk⟩ : ∃ k, P.types.size + Made.depth = k + 1 := ⟨P.types.size + Made.depth - 1, by unfold Made.depth; omega⟩
  rw [hk]
  unfold rowOf at hrow
  split at hrow <;> first | (cases hrow; done) | skip
  rename_i i hi
  split at hrow <;> first | (cases hrow; done) | skip
  rename_i mm hm
  split at hrow <;> first | (cases hrow; done) | skip
  rename_i g pr hfn
  split at hrow <;> first | (cases hrow; done) | skip
  · split at hrow <;> cases hrow
  · rename_i s hpath
    split at hrow <;> first | (cases hrow; done) | skip
    rename_i fs hdr hst
    split at hrow <;> first | (cases hrow; done) | skip
    rename_i fl hfl
    split at hrow <;> first | (cases hrow; done) | skip
    rename_i el hel hsz
    cases hrow
    obtain ⟨l, hl, hm', rfl⟩ := hv.ptr_inv
    obtain ⟨us, hus, hc⟩ := (hr.at hK hl hm').reads
    obtain ⟨uv, hu', hr'⟩ := hus.get hu
    refine ⟨uv, ?_, hr'⟩
    have hld : (loadVar fl.type ⟨l.blk, l.base + (off + fl.offset), none⟩).run P w = .ok uv w := by
      unfold loadVar
      simp only [Sem.run_bind, run_nAgg hel rfl, Result.andThen_ok, Bool.false_eq_true, if_false, run_load, hc _ _ hu']
    simp only [method, Sem.run_bind, typeInfo, run_program, Result.andThen_ok, hi, Sem.run_pure, hm, hpath, follow, run_und hst, hfl, hdr, if_true, Place.get, asAddr, fieldPlace, run_szOf hsz, add_lit, hfn, receiverAt, run_und hel, Nat.add_assoc, hld]
    simp [add_lit, Nat.add_assoc, hfn, receiverAt, run_und hel, Place.get, hld]
end

theorem guard_same {m : Mp} {P : Program} {ops : Array Oper} {o : Oper} {r : AR} {ts : List AV} {a : Act} (ht : VRs m ts a.tmps.toList) (hc : compAR P ops o = some r) :
    comp P o = some r.op ∧ r.dst = o.dst ∧ Region.wanted o (yielded ops a.tmps) = wantA ts r.guard := by
  unfold compAR at hc
  split at hc <;> first | (cases hc; done) | skip
  rename_i op hop
  split at hc <;> first | (cases hc; done) | skip
  · rename_i hg
    cases hc
    exact ⟨hop, rfl, by simp [Region.wanted, hg, wantA]⟩
  · rename_i j want hg
    split at hc <;> first | (cases hc; done) | skip
    rename_i t ht'
    cases hc
    refine ⟨hop, rfl, ?_⟩
    simp only [Region.wanted, hg, wantA, yielded, ht']
    have hv := ht.getD t
    cases e : a.tmps[t]? with
    | none =>
      have e2 : ts[t]? = none := by
        rw [List.getElem?_eq_none_iff]; rw [Array.getElem?_eq_none_iff] at e
        have := ht.length; simp at this; omega
      rw [List.getD_eq_getElem?_getD, e2]
      simp [e]
    | some v =>
      have e2 : a.tmps.toList.getD t undef = v := by
        rw [List.getD_eq_getElem?_getD]; simp [e]
      rw [e2] at hv
      simp only [Option.bind_some, e]
      generalize ts.getD t (.tup []) = x at hv ⊢
      cases x <;> simp only [VR] at hv
      case bool b => subst hv; cases b <;> cases want <;> rfl
      case ptr => obtain ⟨_, _, _, rfl⟩ := hv; rfl
      case map => obtain ⟨_, _, _, rfl⟩ := hv; rfl
      case slc => obtain ⟨_, _, _, _, _, rfl, _⟩ := hv; rfl
      case ifc => obtain ⟨_, rfl, _⟩ := hv; rfl
      case fn => obtain ⟨_, _, rfl, _⟩ := hv; rfl
      case agg => obtain ⟨_, rfl, _⟩ := hv; rfl
      case tup => obtain ⟨_, rfl, _⟩ := hv; rfl
      all_goals (subst hv; rfl)

section
variable {P : Program} {call : FuncId → List AV → A AV} (hcall : CallS P call)
include hcall

theorem call_step {o : Oper} {ao : AOp} (hc : comp P o = some ao) (ic : isCall ao = true) {B : Nat} {m : Mp} {h : Mem} {ts : List AV} {a : Act} {n lg : Nat} {s : Rs AV} (hl : lg ≤ n)
    (e : opRun call ts ao h n lg = some s) {w : World} (hr : HR B m h w) (ht : VRs m ts a.tmps.toList) (hf : Fresh m n s.nx) (w0 : World) :
    ∃ f avs vals tc wr, call f avs h n lg = some ⟨s.v, s.h, s.nx, tc, wr⟩ ∧ VRs m avs vals ∧ (execOp a.eval o).run P w = .ok (.enter f vals.toArray) w := by
  obtain ⟨c, xs, ho, hxs, hcase⟩ := comp_call hc ic
  have hvals := cXs_sound ht hxs
  have hargs : c.args.map a.eval = (c.args.toList.map a.eval).toArray := by apply Array.ext'; simp
  have enter : ∀ f avs vals tc wr, call f avs h n lg = some ⟨s.v, s.h, s.nx, tc, wr⟩ → VRs m avs vals → ∀ args : Array Value, args = vals.toArray → (callFunc f args).run P w = .ok (.enter f vals.toArray) w := by
    intro f avs vals tc wr hcl hv args hargs
    obtain ⟨⟨fn, hfn, hn, hbd⟩, _⟩ := hcall f avs h n lg _ vals m B w hl hcl hr hv hf
    subst hargs
    have hbn : fn.body ≠ none := by intro h; rw [h] at hbd; cases hbd
    have hn' : fn.name ≠ "runtime.NumGoroutine" := by intro h; rw [h] at hn; simp at hn
    simp [callFunc, hfn, hn', hbn]
  rcases hcase with ⟨f, rfl, hb⟩ | ⟨x, x', rfl, hb, hx⟩ | ⟨x, x', name, rfl, hb, hx⟩
  · simp only [opRun] at e
    refine ⟨f, _, _, s.tc, s.wr, e, hvals, ?_⟩
    have := enter f _ _ s.tc s.wr e hvals _ rfl
    unfold execOp; rw [ho]
    simp only [resolve, hb, Act.eval, Deferred.ofValue, Sem.run_bind, Sem.run_pure, Result.andThen_ok, invoke]
    rw [show ((#[] : Array Value) ++ c.args.map a.eval) ++ #[] = (c.args.toList.map a.eval).toArray by rw [hargs]; simp]
    exact this
  · simp only [opRun] at e
    have h1 := cX_sound ht hx
    generalize x'.ev ts = v at e h1
    cases v <;> first | (simp [A.fail] at e; done) | skip
    rename_i f fs cs
    simp only [VR] at h1
    obtain ⟨zs, ys, hp, q1, q2⟩ := h1
    dsimp only at e
    cases hmk : Nat.beq f 4294967295 with
    | true => rw [hmk] at e; simp [A.fail] at e
    | false =>
    rw [hmk] at e
    dsimp only at e
    rw [fnOf_f hmk] at hp
    have hall := VRs.append (VRs.append q1 hvals) q2
    refine ⟨f, _, _, s.tc, s.wr, e, hall, ?_⟩
    have := enter f _ _ s.tc s.wr e hall _ rfl
    unfold execOp; rw [ho]
    simp only [resolve, hb, hp, Deferred.ofValue, Sem.run_bind, Sem.run_pure, Result.andThen_ok, invoke]
    rw [show (zs.toArray ++ c.args.map a.eval) ++ ys.toArray = ((zs ++ c.args.toList.map a.eval) ++ ys).toArray by rw [hargs]; simp]
    exact this
  · simp only [opRun] at e
    have h1 := cX_sound ht hx
    generalize x'.ev ts = v at e h1
    cases v <;> first | (simp [A.fail] at e; done) | skip
    rename_i t v
    simp only [VR] at h1
    obtain ⟨uv, hp, q1⟩ := h1
    have run : ∀ f rv, (method (P.types.size + Made.depth) t uv name).run P w = .ok (f, rv) w → (execOp a.eval o).run P w = (callFunc f (#[rv] ++ c.args.map a.eval)).run P w := by
      intro f rv hmth
      unfold execOp; rw [ho]
      simp only [resolve, hb, hp, Sem.run_bind, Sem.run_pure, Result.andThen_ok, invoke]
      have h0 : (#[Value.iface t uv] ++ c.args.map a.eval)[0]? = some (.iface t uv) := by rw [Array.getElem?_append_left (by simp)]; rfl
      have h2 : (#[Value.iface t uv] ++ c.args.map a.eval).extract 1 (#[Value.iface t uv] ++ c.args.map a.eval).size = c.args.map a.eval := by
        apply Array.ext'
        simp only [Array.toList_extract, List.extract]
        rw [List.take_of_length_le (by simp)]
        simp
      simp only [h0, h2, callMethod, Sem.run_bind, run_program, Result.andThen_ok, hmth]
    dsimp only at e
    cases hrow : rowA (rowsOf P name) t with
    | none => rw [hrow] at e; simp [A.fail] at e
    | some rr =>
      rw [hrow] at e
      have hro := rowsOf_mem (rowA_find hrow)
      obtain ⟨od, f⟩ := rr
      cases od with
      | none =>
        simp only at e
        have hall := VRs.cons_iff.2 ⟨q1, hvals⟩
        refine ⟨f, _, _, s.tc, s.wr, e, hall, ?_⟩
        rw [run f uv (method_none hro uv w)]
        exact enter f _ _ s.tc s.wr e hall _ (by rw [hargs]; simp)
      | some d =>
        simp only at e
        cases v <;> first | (simp [A.fail] at e; done) | skip
        rename_i b off
        obtain ⟨r1, r2, e1, e2, rfl⟩ := A.bind_inv e
        obtain ⟨K, hK, rfl⟩ := rdBlk_inv e1
        dsimp only at e2
        cases hu : K.cells[off + d]? with
        | none => rw [hu] at e2; simp [A.fail] at e2
        | some u =>
          rw [hu] at e2
          obtain ⟨rv, hmth, hrv⟩ := method_at hr hro q1 hK hu
          have hall := VRs.cons_iff.2 ⟨hrv, hvals⟩
          refine ⟨f, _, _, r2.tc, r2.wr, e2, hall, ?_⟩
          rw [run f rv hmth]
          exact enter f _ _ r2.tc r2.wr e2 hall _ (by rw [hargs]; simp)

/-- One operation of a region. -/
theorem stepR_sound {ops : Array Oper} {i : Nat} {o : Oper} {r : AR} (ho : ops[i]? = some o) (hc : compAR P ops o = some r) {B : Nat} {m : Mp} {h : Mem} {w : World} {ts : List AV} {a : Act} {n lg : Nat} {s : Rs AV} (hl : lg ≤ n)
    (e : stepR call ts r h n lg = some s) (hr : HR B m h w) (ht : VRs m ts a.tmps.toList) (hf : Fresh m n s.nx) {K : Act → World → Prop} {Q : Exit → Act → World → Prop}
    (hK : ∀ m' u w', Ext m m' n s.nx → HR B m' s.h w' → VR m' s.v u → Below B w w' → n ≤ s.nx → K (a.put o.dst u) w') : wpOp P ops Q i K a w := by
  obtain ⟨hop, hd, hg⟩ := guard_same ht hc
  unfold wpOp
  simp only [ho]
  rw [hg]
  unfold stepR at e
  cases hw : wantA ts r.guard with
  | false =>
    rw [hw] at e
    have e1 := A.ret_inv e; subst e1
    simp only [Bool.false_eq_true, if_false]
    exact hK m undef w (Ext.refl m n) hr VR.undef (Below.refl B w) (Nat.le_refl n)
  | true =>
    rw [hw] at e
    simp only [if_true]
    left
    unfold Oper.wp
    cases hcl : isCall r.op with
    | true =>
      obtain ⟨f, avs, vals, tc, wr, g1, g2, g3⟩ := call_step hcall hop hcl hl e hr ht hf w
      rw [g3, Oper.upon_enter]
      refine (hcall f avs h n lg _ vals m B w hl g1 hr g2 hf).2.mono ?_
      rintro e' w' ⟨m', u, rfl, g1, g2, g3, g4, g5⟩
      exact hK m' u w' g1 g2 g3 g4 g5
    | false =>
      obtain ⟨m', u, w', g1, g2, g3, g4, g5, g6⟩ := op_step (call := call) hop hcl hr ht hf e
      rcases g1 with g1 | ⟨rfl, g1⟩
      · rw [g1, Oper.upon_value]; exact hK m' u w' g2 g3 g4 g5 g6
      · rw [g1, Oper.upon_skip]; exact hK m' _ w' g2 g3 g4 g5 g6

theorem put_same {m : Mp} {ts : List AV} {a : Act} (ht : VRs m ts a.tmps.toList) (d : Option Nat) {x : AV} {u : Value} (hv : VR m x u) : VRs m (putT ts d x) (a.put d u).tmps.toList := by
  cases d with
  | none => exact ht
  | some d => simp only [putT, Act.put, Array.toList_setIfInBounds]; exact VRs.set hv d ht

/-- A region in the order of the text. -/
theorem regRun_sound (hft : ∀ f xs, Foot (call f xs)) {ops : Array Oper} {Q : Exit → Act → World → Prop} {d0 : List Deferred} : ∀ (k : Nat) (os : List Oper) (rs : List AR), ops.toList.drop k = os → compRs P ops os = some rs →
    ∀ {B : Nat} {m : Mp} {h : Mem} {w : World} {ts : List AV} {a : Act} {n lg : Nat} {s : Rs (List AV)}, lg ≤ n → regRun call rs ts h n lg = some s → HR B m h w → VRs m ts a.tmps.toList → Fresh m n s.nx → a.defers = d0 →
      (∀ m' a' w', Ext m m' n s.nx → HR B m' s.h w' → VRs m' s.v a'.tmps.toList → Below B w w' → n ≤ s.nx → a'.defers = d0 → Q .normal a' w') → wpOps P ops Q ((List.range ops.size).drop k) a w
  | k, [], rs, hos, hrs, B, m, h, w, ts, a, n, lg, s, hl, e, hr, ht, hf, hd, hQ => by
    cases hrs
    simp only [regRun] at e
    have e1 := A.ret_inv e; subst e1
    have hk : ops.size ≤ k := by
      have := congrArg List.length hos; simp at this; omega
    rw [List.drop_eq_nil_of_le (by simpa using hk)]
    exact hQ m a w (Ext.refl m n) hr ht (Below.refl B w) (Nat.le_refl n) hd
  | k, o :: os, rs, hos, hrs, B, m, h, w, ts, a, n, lg, s, hl, e, hr, ht, hf, hd, hQ => by
    simp only [compRs] at hrs
    split at hrs <;> first | (cases hrs; done) | skip
    rename_i r rs' hr1 hr2
    cases hrs
    have hk : k < ops.size := by
      have := congrArg List.length hos; simp at this; omega
    have ho : ops[k]? = some o := by
      have : (ops.toList.drop k)[0]? = some o := by rw [hos]; rfl
      rw [List.getElem?_drop] at this
      simpa using this
    have hos' : ops.toList.drop (k + 1) = os := by
      have : (ops.toList.drop k).drop 1 = os := by rw [hos]; rfl
      rw [List.drop_drop] at this
      exact this
    simp only [regRun] at e
    obtain ⟨r1, r2, e1, e2, rfl⟩ := A.bind_inv e
    rw [show (List.range ops.size).drop k = k :: (List.range ops.size).drop (k + 1) by
      rw [List.drop_eq_getElem_cons (by simpa using hk)]; simp, wpOps_cons]
    have hle1 := (Foot.step hft ts r h n lg r1 hl e1).le
    have hle2 := (Foot.reg hft rs' _ r1.h r1.nx lg r2 (Nat.le_trans hl hle1) e2).le
    refine stepR_sound hcall ho hr1 hl e1 hr ht (fun b h1 h2 => hf b h1 (by simp only; omega)) fun m' u w' g1 g2 g3 g4 g5 => ?_
    have hd' : (a.put o.dst u).defers = d0 := by cases o.dst <;> exact hd
    refine regRun_sound hft (k + 1) os rs' hos' hr2 (Nat.le_trans hl hle1) e2 g2 ?_ (Fresh.ext (n := n) hf g1 g5) hd' fun m2 a2 w2 q1 q2 q3 q4 q5 q6 => ?_
    · rw [(guard_same ht hr1).2.1]
      exact put_same hcall (VRs.mono g1.le _ _ ht) o.dst g3
    · exact hQ m2 a2 w2 (g1.trans q1 g5 q5) q2 q3 (g4.trans q4) (Nat.le_trans g5 q5) q6
end

end Go.Proofs.YtamfoplfbidolaaGreatDoorE

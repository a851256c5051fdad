/- The engine, part 16: functions of the model as the engine has them; one operation of a region; a region in the order of the text. -/
import Derived.Test.YtolflgfcldhfjaaE15
import Derived.LoopN
import Derived.Tactics
namespace Go.Proofs.YtolflgfcldhfjaaE
open Go Go.RowKit
set_option linter.unusedVariables false
set_option linter.unusedSimpArgs false
set_option linter.unusedSectionVars false

def compAR (P : Program) (ops : Array Oper) (o : Oper) : Option AR :=
  match comp P o with
  | none => none
  | some op => match o.guard with
    | none => some ⟨o.dst, none, op⟩
    | some (j, want) => match (ops[j]?).bind (·.dst) with
      | none => none
      | some t => some ⟨o.dst, some (t, want), op⟩
def compRs (P : Program) (ops : Array Oper) : List Oper → Option (List AR)
  | [] => some []
  | o :: os => match compAR P ops o, compRs P ops os with
    | some r, some rs => some (r :: rs)
    | _, _ => none

/-- Temporaries that a guarded operation reads. -/
def AR.rd (r : AR) : List Nat := (match r.guard with | none => [] | some (t, _) => [t]) ++ r.op.rd
def AR.clash (a b : AR) : Bool := match a.dst with
  | none => false
  | some d => b.rd.contains d || (b.dst == some d)
/-- May the earlier operations that are not ordered ahead of one be exchanged with it, as to temporaries? -/
def tmpsFrom (bj : Nat) (rj : AR) : Nat → List AR → Bool
  | _, [] => true
  | i, r :: rs => (Nat.testBit bj i || (!AR.clash r rj && !AR.clash rj r)) && tmpsFrom bj rj (i + 1) rs
def tmpsOk : List AR → List Nat → List AR → Bool
  | _, _, [] => true
  | done, b :: bs, r :: rs => tmpsFrom b r 0 done && tmpsOk (done ++ [r]) bs rs
  | _, [], _ :: _ => false
/-- What the edges of an operation say comes before it. -/
def upBits (bef : List Nat) : List Edge → Nat
  | [] => 0
  | e :: es => match Region.binds .any e with
    | true => 2 ^ e.on ||| bef.getD e.on 0 ||| upBits bef es
    | false => upBits bef es
def edgesOk (bef : List Nat) : Nat → List Oper → Bool
  | _, [] => true
  | i, o :: os => (Nat.beq (bef.getD i 0 ||| upBits bef o.after.toList) (upBits bef o.after.toList)) && (o.after.toList.all fun e => !Region.binds .any e || Nat.blt e.on i) && edgesOk bef (i + 1) os

def compC (P : Program) : Code → Option AC
  | .skip => some .skip
  | .label _ => some .skip
  | .region id ops draw => match compRs P ops ops.toList with
    | none => none
    | some rs => match draw with
      | false => some (.reg rs false [])
      | true => match edgesOk (Region.before ops).toList 0 ops.toList && tmpsOk [] (Region.before ops).toList rs && P.follows .mixedOrders with
        | true => some (.reg rs true (Region.before ops).toList)
        | false => none
  | .seq a b => match compC P a, compC P b with
    | some a, some b => some (.seq a b)
    | _, _ => none
  | .cond c a b => match cX c, compC P a, compC P b with
    | some c, some a, some b => some (.cond c a b)
    | _, _, _ => none
  | .block id c => (compC P c).map (.blk id)
  | .loop c => (compC P c).map .loop
  | .exit id => some (.exit id)
  | .ret => some .ret
  | _ => none

def compRes (P : Program) : List ResultVar → Option (List ARes)
  | [] => some []
  | .tmp t :: rs => (compRes P rs).map fun l => .tmp t :: l
  | .cell a t :: rs => match nOf P t, compRes P rs with
    | some n, some l => some (.cell a n :: l)
    | _, _ => none
def compF (P : Program) (f : FuncId) : Option AF :=
  match P.funcs[f]? with
  | none => none
  | some fn => match fn.body with
    | none => none
    | some c => match compC P c, compRes P fn.results.toList with
      | some c, some rs => some ⟨fn.ntmps, rs, c⟩
      | _, _ => none

/-- The table says of each function what the model's text is. -/
def TableOk (P : Program) (T : FuncId → Option AF) : Prop := ∀ f F, T f = some F → compF P f = some F

/-! ### Calls -/
def CallPost (B : Nat) (m : Mp) (n : Nat) (r : Rs AV) (w : World) (e : Ending) (w' : World) : Prop :=
  ∃ m' u, e = .returned u ∧ Ext m m' n r.nx ∧ HR B m' r.h w' ∧ VR m' r.v u ∧ Below B w w' ∧ n ≤ r.nx
def CallS (P : Program) (call : FuncId → List AV → A AV) : Prop := ∀ f xs h n lg r vals m B w, lg ≤ n → call f xs h n lg = some r → HR B m h w → VRs m xs vals → Fresh m n r.nx →
  Calls P f vals.toArray w (CallPost B m n r w)

theorem exec_call {P : Program} {ρ : Operand → Value} {o : Oper} {c : Call} {f : FuncId} {fn : Func} (ho : o.op = .call c) (hb : c.callee = .value (.func f)) (hρ : ρ (.func f) = .func (.func f) #[] #[]) (hf : P.funcs[f]? = some fn) (hn : (fn.name == "runtime.NumGoroutine") = false) (hbd : fn.body.isSome = true) (w : World) :
    (execOp ρ o).run P w = .ok (.enter f (c.args.map ρ)) w := by
  unfold execOp; rw [ho]
  have hbn : fn.body ≠ none := by intro h; rw [h] at hbd; cases hbd
  have hn' : fn.name ≠ "runtime.NumGoroutine" := by intro h; rw [h] at hn; simp at hn
  simp [resolve, hb, hρ, Deferred.ofValue, invoke, callFunc, hf, hn', hbn]

theorem comp_call {P : Program} {o : Oper} {f : FuncId} {xs : List X} (h : comp P o = some (.call f xs)) :
    ∃ c fn, o.op = .call c ∧ c.callee = .value (.func f) ∧ cXs c.args.toList = some xs ∧ P.funcs[f]? = some fn ∧ (fn.name == "runtime.NumGoroutine") = false ∧ fn.body.isSome = true := by
  cases ho : o.op
  case call c =>
    simp only [comp, ho] at h
    split at h <;> first | (cases h; done) | skip
    rename_i ys hys
    split at h <;> first | (cases h; done) | skip
    · rename_i f' hb
      split at h <;> first | (cases h; done) | skip
      rename_i fn hf
      split at h <;> first | (cases h; done) | skip
      rename_i hc
      cases h
      simp only [Bool.and_eq_true, Bool.not_eq_true'] at hc
      exact ⟨c, fn, rfl, hb, hys, hf, hc.1, hc.2⟩
    · exfalso
      (repeat' split at h) <;> first | (cases h; done) | (simp at h; done)
  all_goals
    exfalso
    simp only [comp, ho] at h
    (repeat' split at h) <;> first | (cases h; done) | (simp at h; done)

theorem guard_same {m : Mp} {P : Program} {ops : Array Oper} {o : Oper} {r : AR} {ts : List AV} {a : Act} (ht : VRs m ts a.tmps.toList) (hc : compAR P ops o = some r) :
    comp P o = some r.op ∧ r.dst = o.dst ∧ Region.wanted o (yielded ops a.tmps) = wantA ts r.guard := by
  unfold compAR at hc
  split at hc <;> first | (cases hc; done) | skip
  rename_i op hop
  split at hc <;> first | (cases hc; done) | skip
  · rename_i hg
    cases hc
    exact ⟨hop, rfl, by simp [Region.wanted, hg, wantA]⟩
  · rename_i j want hg
    split at hc <;> first | (cases hc; done) | skip
    rename_i t ht'
    cases hc
    refine ⟨hop, rfl, ?_⟩
    simp only [Region.wanted, hg, wantA, yielded, ht']
    have hv := ht.getD t
    cases e : a.tmps[t]? with
    | none =>
      have e2 : ts[t]? = none := by
        rw [List.getElem?_eq_none_iff]; rw [Array.getElem?_eq_none_iff] at e
        have := ht.length; simp at this; omega
      rw [List.getD_eq_getElem?_getD, e2]
      simp [e]
    | some v =>
      have e2 : a.tmps.toList.getD t undef = v := by
        rw [List.getD_eq_getElem?_getD]; simp [e]
      rw [e2] at hv
      simp only [Option.bind_some, e]
      generalize ts.getD t (.tup []) = x at hv ⊢
      cases x <;> simp only [VR] at hv
      case bool b => subst hv; cases b <;> cases want <;> rfl
      case ptr => obtain ⟨_, _, rfl⟩ := hv; rfl
      case slc => obtain ⟨_, _, _, _, rfl, _⟩ := hv; rfl
      case ifc => obtain ⟨_, rfl, _⟩ := hv; rfl
      case fn => obtain ⟨_, rfl, _⟩ := hv; rfl
      case agg => obtain ⟨_, rfl, _⟩ := hv; rfl
      case tup => obtain ⟨_, rfl, _⟩ := hv; rfl
      all_goals (subst hv; rfl)

section
variable {P : Program} {call : FuncId → List AV → A AV} (hcall : CallS P call)
include hcall

/-- One operation of a region. -/
theorem stepR_sound {ops : Array Oper} {i : Nat} {o : Oper} {r : AR} (ho : ops[i]? = some o) (hc : compAR P ops o = some r) {B : Nat} {m : Mp} {h : Mem} {w : World} {ts : List AV} {a : Act} {n lg : Nat} {s : Rs AV} (hl : lg ≤ n)
    (e : stepR call ts r h n lg = some s) (hr : HR B m h w) (ht : VRs m ts a.tmps.toList) (hf : Fresh m n s.nx) {K : Act → World → Prop} {Q : Exit → Act → World → Prop}
    (hK : ∀ m' u w', Ext m m' n s.nx → HR B m' s.h w' → VR m' s.v u → Below B w w' → n ≤ s.nx → K (a.put o.dst u) w') : wpOp P ops Q i K a w := by
  obtain ⟨hop, hd, hg⟩ := guard_same ht hc
  unfold wpOp
  simp only [ho]
  rw [hg]
  unfold stepR at e
  cases hw : wantA ts r.guard with
  | false =>
    rw [hw] at e
    have e1 := A.ret_inv e; subst e1
    simp only [Bool.false_eq_true, if_false]
    exact hK m undef w (Ext.refl m n) hr VR.undef (Below.refl B w) (Nat.le_refl n)
  | true =>
    rw [hw] at e
    simp only [if_true]
    left
    unfold Oper.wp
    by_cases hcl : ∃ f xs, r.op = .call f xs
    · obtain ⟨f, xs, hfx⟩ := hcl
      rw [hfx] at hop e
      obtain ⟨c, fn, ho', hb, hxs, hfn, hn, hbd⟩ := comp_call hop
      rw [exec_call ho' hb rfl hfn hn hbd w, Oper.upon_enter]
      simp only [opRun] at e
      have hvals := cXs_sound ht hxs
      have hargs : c.args.map a.eval = (c.args.toList.map a.eval).toArray := by apply Array.ext'; simp
      rw [hargs]
      refine (hcall f _ h n lg s _ m B w hl e hr hvals hf).mono ?_
      rintro e' w' ⟨m', u, rfl, g1, g2, g3, g4, g5⟩
      exact hK m' u w' g1 g2 g3 g4 g5
    · obtain ⟨m', u, w', g1, g2, g3, g4, g5, g6⟩ := op_step (call := call) hop (fun f xs hfx => hcl ⟨f, xs, hfx⟩) hr ht hf e
      rcases g1 with g1 | ⟨rfl, g1⟩
      · rw [g1, Oper.upon_value]; exact hK m' u w' g2 g3 g4 g5 g6
      · rw [g1, Oper.upon_skip]; exact hK m' _ w' g2 g3 g4 g5 g6

theorem put_same {m : Mp} {ts : List AV} {a : Act} (ht : VRs m ts a.tmps.toList) (d : Option Nat) {x : AV} {u : Value} (hv : VR m x u) : VRs m (putT ts d x) (a.put d u).tmps.toList := by
  cases d with
  | none => exact ht
  | some d => simp only [putT, Act.put, Array.toList_setIfInBounds]; exact VRs.set hv d ht

/-- A region in the order of the text. -/
theorem regRun_sound (hft : ∀ f xs, Foot (call f xs)) {ops : Array Oper} {Q : Exit → Act → World → Prop} {d0 : List Deferred} : ∀ (k : Nat) (os : List Oper) (rs : List AR), ops.toList.drop k = os → compRs P ops os = some rs →
    ∀ {B : Nat} {m : Mp} {h : Mem} {w : World} {ts : List AV} {a : Act} {n lg : Nat} {s : Rs (List AV)}, lg ≤ n → regRun call rs ts h n lg = some s → HR B m h w → VRs m ts a.tmps.toList → Fresh m n s.nx → a.defers = d0 →
      (∀ m' a' w', Ext m m' n s.nx → HR B m' s.h w' → VRs m' s.v a'.tmps.toList → Below B w w' → n ≤ s.nx → a'.defers = d0 → Q .normal a' w') → wpOps P ops Q ((List.range ops.size).drop k) a w
  | k, [], rs, hos, hrs, B, m, h, w, ts, a, n, lg, s, hl, e, hr, ht, hf, hd, hQ => by
    cases hrs
    simp only [regRun] at e
    have e1 := A.ret_inv e; subst e1
    have hk : ops.size ≤ k := by
      have := congrArg List.length hos; simp at this; omega
    rw [List.drop_eq_nil_of_le (by simpa using hk)]
    exact hQ m a w (Ext.refl m n) hr ht (Below.refl B w) (Nat.le_refl n) hd
  | k, o :: os, rs, hos, hrs, B, m, h, w, ts, a, n, lg, s, hl, e, hr, ht, hf, hd, hQ => by
    simp only [compRs] at hrs
    split at hrs <;> first | (cases hrs; done) | skip
    rename_i r rs' hr1 hr2
    cases hrs
    have hk : k < ops.size := by
      have := congrArg List.length hos; simp at this; omega
    have ho : ops[k]? = some o := by
      have : (ops.toList.drop k)[0]? = some o := by rw [hos]; rfl
      rw [List.getElem?_drop] at this
      simpa using this
    have hos' : ops.toList.drop (k + 1) = os := by
      have : (ops.toList.drop k).drop 1 = os := by rw [hos]; rfl
      rw [List.drop_drop] at this
      exact this
    simp only [regRun] at e
    obtain ⟨r1, r2, e1, e2, rfl⟩ := A.bind_inv e
    rw [show (List.range ops.size).drop k = k :: (List.range ops.size).drop (k + 1) by
      rw [List.drop_eq_getElem_cons (by simpa using hk)]; simp, wpOps_cons]
    have hle1 := (Foot.step hft ts r h n lg r1 hl e1).le
    have hle2 := (Foot.reg hft rs' _ r1.h r1.nx lg r2 (Nat.le_trans hl hle1) e2).le
    refine stepR_sound hcall ho hr1 hl e1 hr ht (fun b h1 h2 => hf b h1 (by simp only; omega)) fun m' u w' g1 g2 g3 g4 g5 => ?_
    have hd' : (a.put o.dst u).defers = d0 := by cases o.dst <;> exact hd
    refine regRun_sound hft (k + 1) os rs' hos' hr2 (Nat.le_trans hl hle1) e2 g2 ?_ (Fresh.ext (n := n) hf g1 g5) hd' fun m2 a2 w2 q1 q2 q3 q4 q5 q6 => ?_
    · rw [(guard_same ht hr1).2.1]
      exact put_same hcall (VRs.mono g1.le _ _ ht) o.dst g3
    · exact hQ m2 a2 w2 (g1.trans q1 g5 q5) q2 q3 (g4.trans q4) (Nat.le_trans g5 q5) q6
end

end Go.Proofs.YtolflgfcldhfjaaE

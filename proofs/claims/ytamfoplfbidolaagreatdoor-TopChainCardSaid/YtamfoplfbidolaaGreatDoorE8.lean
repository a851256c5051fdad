/- The engine, part 8: built-in functions; parts of slices. -/
import Derived.Test.YtamfoplfbidolaaGreatDoorE7
namespace Go.Proofs.YtamfoplfbidolaaGreatDoorE
open Go Go.RowKit
set_option linter.unusedVariables false
set_option linter.unusedSimpArgs false

theorem exec_builtin {P : Program} {ρ : Operand → Value} {o : Oper} {c : Call} {b : Builtin} (ho : o.op = .call c) (hb : c.callee = .builtin b) :
    execOp ρ o = builtin b c.argTypes o.type (c.args.map fun | .const _ => true | _ => false) (c.args.map ρ) := by
  unfold execOp; rw [ho]
  simp only [resolve, hb]
  rfl

theorem args_of {c : Call} {xs : List Operand} (h : c.args.toList = xs) (ρ : Operand → Value) : c.args.map ρ = (xs.map ρ).toArray := by
  rw [← h]; apply Array.ext'; simp

theorem cXs_cons {os : List Operand} {x : X} {xs : List X} (h : cXs os = some (x :: xs)) : ∃ o rest, os = o :: rest ∧ cX o = some x ∧ cXs rest = some xs := by
  cases os with
  | nil => cases h
  | cons o rest =>
    simp only [cXs] at h
    split at h
    · rename_i y ys h1 h2; cases h; exact ⟨o, rest, rfl, h1, h2⟩
    · cases h
theorem cXs_nil {os : List Operand} (h : cXs os = some []) : os = [] := by
  cases os with
  | nil => rfl
  | cons o rest =>
    simp only [cXs] at h
    split at h <;> cases h

theorem lenA_run {P : Program} {m : Mp} {x : AV} {u : Value} {k : Nat} (h : lenA x = some k) (hv : VR m x u) (w : World) : (Builtin.lenOf u).run P w = .ok k w := by
  unfold lenA at h
  split at h <;> first | (cases h; done) | skip
  · cases h; simp only [VR] at hv; obtain ⟨l, a, c, _, _, rfl, _⟩ := hv; rfl
  · cases h; simp only [VR] at hv; subst hv; rfl
  · cases h; rw [hv.str_inv]; rfl

section
variable {P : Program} {B : Nat} {m : Mp} {h : Mem} {w : World} {ts : List AV} {a : Act} {n lg : Nat} {r : Rs AV} {o : Oper} {call : FuncId → List AV → A AV}

theorem st_lens (hr : HR B m h w) (ht : VRs m ts a.tmps.toList) {c : Call} {t : TypeId} {x : Operand} {x' : X} (ho : o.op = .call c) (hb : c.callee = .builtin .len) (ha : c.args.toList = [x]) (h0 : c.argTypes[0]? = some t) (hu : P.underlying t = some .string)
    (hx : cX x = some x') (e : opRun call ts (.len true x') h n lg = some r) : Step P B m n r (execOp a.eval o) w := by
  simp only [opRun] at e
  have h1 := cX_sound ht hx
  generalize x'.ev ts = v at e h1
  cases v <;> first | (simp [A.fail] at e; done) | skip
  have e1 := A.ret_inv e; subst e1
  refine Step.same hr ?_ (VR.int _ _)
  rw [exec_builtin (P := P) ho hb, args_of ha]
  refine run_val ?_
  simp [Builtin.len_, h0, run_und hu, h1.str_inv, goInt]

theorem st_lenl (hr : HR B m h w) (ht : VRs m ts a.tmps.toList) {c : Call} {t el : TypeId} {x : Operand} {x' : X} (ho : o.op = .call c) (hb : c.callee = .builtin .len) (ha : c.args.toList = [x]) (h0 : c.argTypes[0]? = some t) (hu : P.underlying t = some (.slice el))
    (hx : cX x = some x') (e : opRun call ts (.len false x') h n lg = some r) : Step P B m n r (execOp a.eval o) w := by
  simp only [opRun] at e
  have h1 := cX_sound ht hx
  generalize x'.ev ts = v at e h1
  cases v <;> first | (simp [A.fail] at e; done) | skip
  · have e1 := A.ret_inv e; subst e1
    refine Step.same hr ?_ (VR.int _ _)
    rw [exec_builtin (P := P) ho hb, args_of ha]
    refine run_val ?_
    simp only [VR] at h1; obtain ⟨l, ad, cc, _, _, hp, _⟩ := h1
    simp [Builtin.len_, h0, run_und hu, hp, goInt]
  · have e1 := A.ret_inv e; subst e1
    refine Step.same hr ?_ (VR.int _ _)
    rw [exec_builtin (P := P) ho hb, args_of ha]
    refine run_val ?_
    simp only [VR] at h1
    simp [Builtin.len_, h0, run_und hu, h1, goInt]

theorem st_lenc (hr : HR B m h w) (ht : VRs m ts a.tmps.toList) {c : Call} {t : TypeId} {q : Nat} {x : Operand} (ho : o.op = .call c) (hb : c.callee = .builtin .len) (ha : c.args.toList = [x]) (h0 : c.argTypes[0]? = some t)
    (hu : (∃ el, P.underlying t = some (.array q el)) ∨ ∃ ar el, P.underlying t = some (.pointer ar) ∧ P.underlying ar = some (.array q el))
    (e : opRun call ts (.lenc q) h n lg = some r) : Step P B m n r (execOp a.eval o) w := by
  simp only [opRun] at e
  have e1 := A.ret_inv e; subst e1
  refine Step.same hr ?_ (VR.int _ _)
  rw [exec_builtin (P := P) ho hb, args_of ha]
  refine run_val ?_
  rcases hu with ⟨el, hu⟩ | ⟨ar, el, hu, hv⟩
  · simp [Builtin.len_, h0, run_und hu, goInt]
  · simp [Builtin.len_, h0, run_und hu, run_und hv, goInt]

theorem foldl_none (f : Option AV → AV → Option AV) (hf : ∀ x, f none x = none) : ∀ l : List AV, l.foldl f none = none
  | [] => rfl
  | x :: l => by rw [List.foldl_cons, hf, foldl_none f hf l]

theorem min_run : ∀ (xs : List AV) (us : List Value) (k : IntKind) (x : Int) (v : AV), VRs m xs us →
    xs.foldl min2A (some (.int k x)) = some v → ∃ u, (us.foldlM Builtin.min2 (.int k x)).run P w = .ok u w ∧ VR m v u
  | [], us, k, x, v, hv, e => by
    rw [VRs.nil_iff.1 hv]
    simp only [List.foldl_nil] at e; cases e
    exact ⟨_, by simp, VR.int _ _⟩
  | y :: xs, us, k, x, v, hv, e => by
    simp only [VRs] at hv
    obtain ⟨u, us', rfl, hu, hus⟩ := hv
    simp only [List.foldl_cons] at e
    cases y <;> first | (simp only [min2A] at e; rw [foldl_none min2A (fun x => by simp [min2A])] at e; cases e; done) | skip
    rename_i k2 y
    rw [hu.int_inv]
    obtain ⟨z, hz, hvz⟩ := min_run xs us' k (if y < x then y else x) v hus e
    refine ⟨z, ?_, hvz⟩
    simp only [List.foldlM_cons, Sem.run_bind, Builtin.min2, Sem.run_pure, Result.andThen_ok]
    exact hz

theorem max_run : ∀ (xs : List AV) (us : List Value) (k : IntKind) (x : Int) (v : AV), VRs m xs us →
    xs.foldl max2A (some (.int k x)) = some v → ∃ u, (us.foldlM Builtin.max2 (.int k x)).run P w = .ok u w ∧ VR m v u
  | [], us, k, x, v, hv, e => by
    rw [VRs.nil_iff.1 hv]
    simp only [List.foldl_nil] at e; cases e
    exact ⟨_, by simp, VR.int _ _⟩
  | y :: xs, us, k, x, v, hv, e => by
    simp only [VRs] at hv
    obtain ⟨u, us', rfl, hu, hus⟩ := hv
    simp only [List.foldl_cons] at e
    cases y <;> first | (simp only [max2A] at e; rw [foldl_none max2A (fun x => by simp [max2A])] at e; cases e; done) | skip
    rename_i k2 y
    rw [hu.int_inv]
    obtain ⟨z, hz, hvz⟩ := max_run xs us' k (if y > x then y else x) v hus e
    refine ⟨z, ?_, hvz⟩
    simp only [List.foldlM_cons, Sem.run_bind, Builtin.max2, Sem.run_pure, Result.andThen_ok]
    exact hz

theorem st_mn (hr : HR B m h w) (ht : VRs m ts a.tmps.toList) {c : Call} {xs : List X} (ho : o.op = .call c) (hb : c.callee = .builtin .min) (hx : cXs c.args.toList = some xs)
    (e : opRun call ts (.mn xs) h n lg = some r) : Step P B m n r (execOp a.eval o) w := by
  simp only [opRun] at e
  obtain ⟨v, hv, rfl⟩ := A.ofOpt_inv e
  have hvs := cXs_sound ht hx
  generalize xs.map (·.ev ts) = vs at hv hvs
  unfold minI at hv
  split at hv <;> first | (cases hv; done) | skip
  rename_i k x rest
  simp only [VRs] at hvs
  obtain ⟨u, us, hus, hu, hrest⟩ := hvs
  obtain ⟨z, hz, hvz⟩ := min_run (P := P) (w := w) rest us k x v hrest hv
  refine Step.same hr ?_ hvz
  rw [exec_builtin (P := P) ho hb]
  refine run_val ?_
  have hargs : (c.args.map a.eval).toList = .int k x :: us := by rw [Array.toList_map, hus, hu.int_inv]
  simp only [Builtin.min_, hargs]
  exact hz

theorem st_mx (hr : HR B m h w) (ht : VRs m ts a.tmps.toList) {c : Call} {xs : List X} (ho : o.op = .call c) (hb : c.callee = .builtin .max) (hx : cXs c.args.toList = some xs)
    (e : opRun call ts (.mx xs) h n lg = some r) : Step P B m n r (execOp a.eval o) w := by
  simp only [opRun] at e
  obtain ⟨v, hv, rfl⟩ := A.ofOpt_inv e
  have hvs := cXs_sound ht hx
  generalize xs.map (·.ev ts) = vs at hv hvs
  unfold maxI at hv
  split at hv <;> first | (cases hv; done) | skip
  rename_i k x rest
  simp only [VRs] at hvs
  obtain ⟨u, us, hus, hu, hrest⟩ := hvs
  obtain ⟨z, hz, hvz⟩ := max_run (P := P) (w := w) rest us k x v hrest hv
  refine Step.same hr ?_ hvz
  rw [exec_builtin (P := P) ho hb]
  refine run_val ?_
  have hargs : (c.args.map a.eval).toList = .int k x :: us := by rw [Array.toList_map, hus, hu.int_inv]
  simp only [Builtin.max_, hargs]
  exact hz

end
end Go.Proofs.YtamfoplfbidolaaGreatDoorE

/- The second executor, text 4 of 4. -/
import Derived.Test.YtamfoplfbidolaaGreatDoorX3
import Derived.Test.YtamfoplfbidolaaGreatDoorX2
import Derived.Test.YtamfoplfbidolaaGreatDoorE27
/- The second executor: operations whose order is open. -/
namespace Go.Proofs.YtamfoplfbidolaaGreatDoorX
open Go Go.Proofs.YtamfoplfbidolaaGreatDoorE Go.Proofs.YtamfoplfbidolaaGreatDoorB
set_option linter.unusedVariables false
set_option linter.unusedSimpArgs false

noncomputable def stOf (ks on : List Nat) (st : TS) (r : AR) : TS := match r.dst with
  | none => st
  | some d => match pth ks d with
    | some _ => stK ks on st r d
    | none => stP st d
noncomputable def dstOf (ks : List Nat) (r : AR) : Dst := match r.dst with
  | none => dN
  | some d => match pth ks d with
    | some p => dK p
    | none => dP
def dstOk (nt : Nat) (r : AR) : Bool := match r.dst with
  | none => true
  | some d => Nat.blt d nt
noncomputable def drOf (ks : List Nat) (nt : Nat) (st : TS) (r : AR) (i b : Nat) : DR := match dstOk nt r with
  | true => .mk i b (dstOf ks r) (gdO ks st r.guard) (trO (opd ks st) r.op).fc
  | false => .mk i b dN none (oM mBad)
noncomputable def consD (x : DR) (p : List DR × TS) : List DR × TS := (x :: p.1, p.2)
noncomputable def trD (ks on : List Nat) (nt : Nat) : List AR → List Nat → Nat → TS → List DR × TS
  | [], _, _, st => ([], st)
  | _ :: _, [], _, st => ([.mk 0 0 dN none (oM mBad)], st)
  | r :: rs, b :: bs, i, st => match aliasT ks on nt st r with
    | some st' => trD ks on nt rs bs (Nat.succ i) st'
    | none => consD (drOf ks nt st r i b) (trD ks on nt rs bs (Nat.succ i) (stOf ks on st r))

/-! ### Logs -/
def DX (call : FuncId → List AV → A AV) (done : List (Nat × Nat)) (bs : List Nat) (rs : List AR) (kx : List AV → A (Ex × List AV)) (ts : List AV) : A (Ex × List AV) := fun h n lg => match regLog call rs ts h n with
  | none => none
  | some (q, l) => match allApart done bs l with
    | false => none
    | true => match kx q.v q.h q.nx lg with
      | none => none
      | some s => some ⟨s.v, s.h, s.nx, lowBits lg q.tc ||| s.tc, lowBits lg q.wr ||| s.wr⟩
theorem DX_draw (call : FuncId → List AV → A AV) (bs : List Nat) (rs : List AR) (kx : List AV → A (Ex × List AV)) (ts : List AV) : A.bind (regDraw call rs bs ts) kx = DX call [] bs rs kx ts := by
  funext h n lg
  unfold A.bind regDraw DX
  cases regLog call rs ts h n with
  | none => rfl
  | some p =>
    obtain ⟨q, l⟩ := p
    simp only
    cases allApart [] bs l with
    | false => rfl
    | true =>
      simp only
      cases kx q.v q.h q.nx lg <;> rfl
theorem lowBits_or' (lg a b : Nat) : lowBits lg (a ||| b) = lowBits lg a ||| lowBits lg b := by
  unfold lowBits
  apply Nat.eq_of_testBit_eq
  intro i
  simp only [Nat.testBit_mod_two_pow, Nat.testBit_or, Bool.and_or_distrib_left]
theorem DX_step {call : FuncId → List AV → A AV} {done : List (Nat × Nat)} {b : Nat} {bs : List Nat} {r : AR} {rs : List AR} {kx : List AV → A (Ex × List AV)} {ts : List AV} {h : Mem} {n lg : Nat} {s : Rs AV} {z : Rs (Ex × List AV)}
    (h1 : stepR call ts r h n n = some s) (h2 : apartFrom b (s.tc ||| (2 ^ s.nx - 2 ^ n), s.wr ||| (2 ^ s.nx - 2 ^ n)) 0 done = true) (h3 : DX call (done ++ [(s.tc ||| (2 ^ s.nx - 2 ^ n), s.wr ||| (2 ^ s.nx - 2 ^ n))]) bs rs kx (putT ts r.dst s.v) s.h s.nx lg = some z) :
    DX call done (b :: bs) (r :: rs) kx ts h n lg = some ⟨z.v, z.h, z.nx, lowBits lg s.tc ||| z.tc, lowBits lg s.wr ||| z.wr⟩ := by
  unfold DX at h3 ⊢
  simp only [regLog, h1]
  cases hl : regLog call rs (putT ts r.dst s.v) s.h s.nx with
  | none => rw [hl] at h3; cases h3
  | some p =>
    obtain ⟨q, l⟩ := p
    rw [hl] at h3
    simp only at h3 ⊢
    simp only [allApart, h2, Bool.true_and]
    cases ha : allApart (done ++ [(s.tc ||| (2 ^ s.nx - 2 ^ n), s.wr ||| (2 ^ s.nx - 2 ^ n))]) bs l with
    | false => rw [ha] at h3; cases h3
    | true =>
      rw [ha] at h3
      simp only at h3 ⊢
      cases hk : kx q.v q.h q.nx lg with
      | none => rw [hk] at h3; cases h3
      | some y =>
        rw [hk] at h3
        cases h3
        simp only [lowBits_or', Nat.or_assoc]
theorem DX_ev {call : Nat → FuncId → List AV → A AV} {done : List (Nat × Nat)} {b : Nat} {bs : List Nat} {r : AR} {rs : List AR} {kx : Nat → List AV → A (Ex × List AV)} {ts : List AV} {h : Mem} {n lg : Nat} {s : Rs AV} {z : Rs (Ex × List AV)}
    (h1 : Ev (fun N => stepR (call N) ts r h n n) s) (h2 : apartFrom b (s.tc ||| (2 ^ s.nx - 2 ^ n), s.wr ||| (2 ^ s.nx - 2 ^ n)) 0 done = true) (h3 : Ev (fun N => DX (call N) (done ++ [(s.tc ||| (2 ^ s.nx - 2 ^ n), s.wr ||| (2 ^ s.nx - 2 ^ n))]) bs rs (kx N) (putT ts r.dst s.v) s.h s.nx lg) z) :
    Ev (fun N => DX (call N) done (b :: bs) (r :: rs) (kx N) ts h n lg) ⟨z.v, z.h, z.nx, lowBits lg s.tc ||| z.tc, lowBits lg s.wr ||| z.wr⟩ := by
  obtain ⟨N1, e1⟩ := h1
  obtain ⟨N2, e2⟩ := h3
  exact ⟨N1 + N2, fun N hN => DX_step (e1 N (by omega)) h2 (e2 N (by omega))⟩
/-- What is logged: all but what touched nothing. -/
def DnR (done : List (Nat × Nat)) (l : List (Nat × Nat × Nat)) : Prop := ∀ i x, done[i]? = some x → (x.1 = 0 ∧ x.2 = 0) ∨ (i, x.1, x.2) ∈ l
theorem apart2_mem {b t w : Nat} : ∀ {l : List (Nat × Nat × Nat)}, apart2 b t w l = true → ∀ i t' w', (i, t', w') ∈ l → Nat.testBit b i = true ∨ (w' &&& t = 0 ∧ t' &&& w = 0)
  | [], _, i, t', w', h => by cases h
  | (j, t0, w0) :: l, e, i, t', w', h => by
    unfold apart2 at e
    cases hb : Nat.testBit b j <;> rw [hb] at e
    · simp only at e
      cases h1 : Nat.beq (Nat.land w0 t) 0 <;> rw [h1] at e
      · cases e
      · simp only at e
        cases h2 : Nat.beq (Nat.land t0 w) 0 <;> rw [h2] at e
        · cases e
        · rcases List.mem_cons.1 h with h | h
          · cases h
            exact .inr ⟨Nat.eq_of_beq_eq_true h1, Nat.eq_of_beq_eq_true h2⟩
          · exact apart2_mem e i t' w' h
    · rcases List.mem_cons.1 h with h | h
      · cases h; exact .inl hb
      · exact apart2_mem e i t' w' h
theorem apartFrom_of {b : Nat} {tw : Nat × Nat} : ∀ {done : List (Nat × Nat)} {k : Nat}, (∀ i x, done[i]? = some x → Nat.testBit b (k + i) = true ∨ (x.2 &&& tw.1 = 0 ∧ x.1 &&& tw.2 = 0)) → apartFrom b tw k done = true
  | [], k, _ => rfl
  | (t, w) :: l, k, H => by
    have h0 := H 0 (t, w) rfl
    rw [Nat.add_zero] at h0
    have ih := apartFrom_of (done := l) (k := k + 1) (fun i x hx => by
      have := H (i + 1) x (by simpa using hx)
      rw [show k + (i + 1) = k + 1 + i by omega] at this
      exact this)
    unfold apartFrom
    rw [ih, Bool.and_true]
    rcases h0 with h0 | ⟨h1, h2⟩
    · rw [h0]; rfl
    · simp only at h1 h2
      rw [h1, h2]
      simp
theorem DnR.apart {done : List (Nat × Nat)} {l : List (Nat × Nat × Nat)} (g : DnR done l) {b t w : Nat} (e : apart2 b t w l = true) : apartFrom b (t, w) 0 done = true := apartFrom_of fun i x hx => by
  rw [Nat.zero_add]
  rcases g i x hx with ⟨h1, h2⟩ | h
  · exact .inr ⟨by rw [h2]; simp, by rw [h1]; simp⟩
  · exact apart2_mem e i x.1 x.2 h
theorem DnR.apart0 {done : List (Nat × Nat)} {b : Nat} : apartFrom b (0, 0) 0 done = true := apartFrom_of fun i x hx => .inr ⟨by simp, by simp⟩
theorem DnR.zero {done : List (Nat × Nat)} {l : List (Nat × Nat × Nat)} (g : DnR done l) : DnR (done ++ [(0, 0)]) l := fun i x hx => by
  rcases Nat.lt_or_ge i done.length with h | h
  · rw [List.getElem?_append_left h] at hx; exact g i x hx
  · rw [List.getElem?_append_right h] at hx
    have := List.mem_of_getElem? hx
    simp only [List.mem_singleton] at this
    rw [this]; exact .inl ⟨rfl, rfl⟩
theorem DnR.cons {done : List (Nat × Nat)} {l : List (Nat × Nat × Nat)} (g : DnR done l) (t w : Nat) : DnR (done ++ [(t, w)]) ((done.length, t, w) :: l) := fun i x hx => by
  rcases Nat.lt_or_ge i done.length with h | h
  · rw [List.getElem?_append_left h] at hx
    rcases g i x hx with q | q
    · exact .inl q
    · exact .inr (List.mem_cons_of_mem _ q)
  · have hi : i = done.length := by
      have := (List.getElem?_eq_some_iff.1 hx).1
      simp at this; omega
    subst hi
    rw [List.getElem?_append_right (Nat.le_refl _), Nat.sub_self] at hx
    simp at hx
    rw [← hx]
    exact .inr (by simp)

section
variable {ρ : Nat → Int} {ks on : List Nat} {nt : Nat}
/-- One operation where the order is open. -/
theorem drStep_fit {c : Call2} {call : Nat → FuncId → List AV → A AV} (hc : CallFit ρ c call) {st : TS} {E : List V} {S : Tp V} {ts : List AV} {m : Tm} {nx : Pa} {h : Mem} (hr : Rel ρ ks nt st E S ts) (hm : MR ρ m nx h) (r : AR) :
    FitE ρ m nx h (drStep c (gdO ks st r.guard) (trO (opd ks st) r.op).fc E S) (fun N => stepR (call N) ts r) ∧ (∀ {N hh n lg s al}, stepR (call N) ts r hh n lg = some s → r.guard = none → srcA ks st r.op = some al → AlR ρ st.dep E ts al s.v) := by
  have fit := trO_fit hc (fun a => hr.opd a) hm r.op (E := E) (S := S) (ts := ts)
  constructor
  · cases hg : r.guard with
    | none =>
      have : (fun N => stepR (call N) ts r) = fun N => opRun (call N) ts r.op := funext fun N => by unfold stepR wantA; rw [hg]
      rw [this]; exact fit
    | some p =>
      obtain ⟨t, w⟩ := p
      obtain ⟨u, hu, hv⟩ := hr.opd (.t t)
      have step : drStep c (gdO ks st (some (t, w))) (trO (opd ks st) r.op).fc E S = Option.rec (motive := fun _ => K2) fail2 (fun b => Bool.rec (motive := fun _ => K2) (done (.tup [])) ((trO (opd ks st) r.op).fc c E S) b) (gdB u w) := by
        funext m nx lg tc wr κ
        show opd ks st (.t t) E S (fun t => Option.rec (motive := fun _ => Bool) false (fun b => Bool.rec (motive := fun _ => Bool) (κ (.tup []) m nx tc wr) ((trO (opd ks st) r.op).fc c E S m nx lg tc wr κ) b) (gdB t w)) = _
        rw [hu]
        cases gdB u w with
        | none => rfl
        | some b => cases b <;> rfl
      rw [step]
      cases hb : gdB u w with
      | none => exact FitE.fail
      | some b =>
        have hw := gdB_ok hv hb (ts := ts) (t := t) rfl
        cases b with
        | true =>
          have : (fun N => stepR (call N) ts r) = fun N => opRun (call N) ts r.op := funext fun N => by unfold stepR; rw [hg, hw]
          rw [this]; exact fit
        | false =>
          have : (fun N => stepR (call N) ts r) = fun _ => A.ret (.tup []) := funext fun N => by unfold stepR; rw [hg, hw]
          rw [this]; exact (FitAt.done hm (.tup _ _ .nil)).ev
  · intro N hh n lg s al e hg hs
    unfold stepR wantA at e
    rw [hg] at e
    exact srcA_ok hr hs e
theorem Dok.of {st : TS} {r : AR} (h : dstOk nt r = true) : Dok ρ ks nt st (stOf ks on st r) r (dstOf ks r) := by
  unfold stOf dstOf
  unfold dstOk at h
  cases hd : r.dst with
  | none => exact Dok.no hd
  | some d =>
    rw [hd] at h
    have hn : d < nt := Nat.le_of_ble_eq_true h
    simp only
    cases hp : pth ks d with
    | some p => exact Dok.slot hd hn hp
    | none => exact Dok.push hd hn hp
/-- What one of them leaves in the log. -/
theorem drLog_eq (k : Kd) (d : Dst) (i b : Nat) (l : List (Nat × Nat × Nat)) (E : List V) (S : Tp V) (lg tc wr : Nat) (nx : Pa) (κ : Ke) (v : V) (m : Tm) (nx' : Pa) (t w : Nat) :
    drLog k d i b l E S lg tc wr nx κ v m nx' t w = match decide (t = 0 ∧ w = 0 ∧ newBits nx nx' = 0) with
      | true => d v (k l) E S m nx' lg tc wr κ
      | false => match apart2 b (t ||| newBits nx nx') (w ||| newBits nx nx') l with
        | true => d v (k ((i, t ||| newBits nx nx', w ||| newBits nx nx') :: l)) E S m nx' lg (tc ||| lowBits lg t) (wr ||| lowBits lg w) κ
        | false => false := by
  unfold drLog
  rw [mskK_eq, mskK_eq]
  have e : Nat.beq (Nat.lor (Nat.lor t w) (newBits nx nx')) 0 = decide (t = 0 ∧ w = 0 ∧ newBits nx nx' = 0) := by
    rw [nat_beq_dec]
    congr 1
    apply propext
    show (t ||| w ||| newBits nx nx') = 0 ↔ _
    constructor
    · intro h
      have h1 := Nat.or_eq_zero_iff.1 h
      have h2 := Nat.or_eq_zero_iff.1 h1.1
      exact ⟨h2.1, h2.2, h1.2⟩
    · rintro ⟨rfl, rfl, h⟩
      rw [h]; rfl
  rw [e]
  cases decide (t = 0 ∧ w = 0 ∧ newBits nx nx' = 0) with
  | true => rfl
  | false =>
    show Bool.rec (motive := fun _ => Bool) false _ (apart2 b (t ||| newBits nx nx') (w ||| newBits nx nx') l) = _
    cases apart2 b (t ||| newBits nx nx') (w ||| newBits nx nx') l <;> rfl
theorem RCE.draw {tc wr : Nat} {rc : Ke → Bool} {call : Nat → FuncId → List AV → A AV} {done : List (Nat × Nat)} {b : Nat} {bs : List Nat} {r : AR} {rs : List AR} {kx : Nat → List AV → A (Ex × List AV)} {ts : List AV} {h : Mem} {n lg : Nat} {s : Rs AV}
    (h1 : Ev (fun N => stepR (call N) ts r h n n) s) (h2 : apartFrom b (s.tc ||| (2 ^ s.nx - 2 ^ n), s.wr ||| (2 ^ s.nx - 2 ^ n)) 0 done = true)
    (h3 : RCE ρ ks nt (tc ||| lowBits lg s.tc) (wr ||| lowBits lg s.wr) rc (fun N => DX (call N) (done ++ [(s.tc ||| (2 ^ s.nx - 2 ^ n), s.wr ||| (2 ^ s.nx - 2 ^ n))]) bs rs (kx N) (putT ts r.dst s.v) s.h s.nx lg)) :
    RCE ρ ks nt tc wr rc (fun N => DX (call N) done (b :: bs) (r :: rs) (kx N) ts h n lg) := fun κ he => by
  obtain ⟨e, S, m, nx, tc', wr', hκ, z, q1, q2, q3, q4, q5, q6, q7⟩ := h3 κ he
  exact ⟨e, S, m, nx, tc', wr', hκ, _, DX_ev h1 h2 q1, q2, q3, q4, q5, by rw [q6, Nat.or_assoc], by rw [q7, Nat.or_assoc]⟩
theorem drawL_fit {c : Call2} {call : Nat → FuncId → List AV → A AV} (hc : CallFit ρ c call) {n : Nat} {k : TS → Code} {kx : Nat → List AV → A (Ex × List AV)} (hk : ∀ st, KFit ρ ks nt st (k st c n) kx) :
    ∀ (rs : List AR) (bs : List Nat) (st : TS) (done : List (Nat × Nat)) (l : List (Nat × Nat × Nat)), DnR done l →
      KFit ρ ks nt st (drawL c (trD ks on nt rs bs done.length st).1 (k (trD ks on nt rs bs done.length st).2 c n) l) (fun N ts => DX (call N) done bs rs (kx N) ts)
  | [], bs, st, done, l, hl => by
    intro E S ts m nx h hr hdep hm lg tc wr
    have : (fun N => DX (call N) done bs [] (kx N) ts h nx.nat lg) = fun N => kx N ts h nx.nat lg := funext fun N => by
      unfold DX
      simp only [regLog, allApart]
      cases kx N ts h nx.nat lg with
      | none => rfl
      | some s => simp [lowBits]
    rw [this]
    exact hk st E S ts m nx h hr hdep hm lg tc wr
  | r :: rs, [], st, done, l, hl => by
    intro E S ts m nx h hr hdep hm lg tc wr κ he
    change fcN nx.nat (fun n0 => drStep c none (oM mBad) E S m nx n0 0 0 _) = true at he
    rw [fcN_eq] at he
    cases he
  | r :: rs, b :: bs, st, done, l, hl => by
    have len1 : ∀ x, Nat.succ done.length = (done ++ [x]).length := fun x => by simp
    unfold trD
    cases ha : aliasT ks on nt st r with
    | some st' =>
      simp only
      intro E S ts m nx h hr hdep hm lg tc wr
      obtain ⟨a, q1, q2, q3⟩ := alias_ok ha hr
      have h1' : Ev (fun N => stepR (call N) ts r h nx.nat nx.nat) ⟨a, h, nx.nat, 0, 0⟩ := ⟨0, fun N _ => q1 (call N) h nx.nat nx.nat⟩
      have z0 : ((0 : Nat) ||| (2 ^ nx.nat - 2 ^ nx.nat)) = 0 := by simp
      refine RCE.draw (s := ⟨a, h, nx.nat, 0, 0⟩) h1' ?_ ?_
      · simp only [z0]; exact DnR.apart0
      · simp only [z0, show lowBits lg 0 = 0 by simp [lowBits], Nat.or_zero]
        have ih := drawL_fit hc hk rs bs st' (done ++ [(0, 0)]) l hl.zero
        rw [← len1 (0, 0)] at ih
        exact ih E S (putT ts r.dst a) m nx h q2 (by rw [q3]; exact hdep) hm lg tc wr
    | none =>
      simp only [consD]
      intro E S ts m nx h hr hdep hm lg tc wr
      unfold drOf
      cases hd : dstOk nt r with
      | false =>
        intro κ he
        change fcN nx.nat (fun n0 => drStep c none (oM mBad) E S m nx n0 0 0 _) = true at he
        rw [fcN_eq] at he
        cases he
      | true =>
        have dok : Dok ρ ks nt st (stOf ks on st r) r (dstOf ks r) := Dok.of hd
        obtain ⟨fit, src⟩ := drStep_fit hc hr hm r
        intro κ he
        change fcN nx.nat (fun n0 => drStep c (gdO ks st r.guard) (trO (opd ks st) r.op).fc E S m nx n0 0 0 (drLog (drawL c (trD ks on nt rs bs (Nat.succ done.length) (stOf ks on st r)).1 (k (trD ks on nt rs bs (Nat.succ done.length) (stOf ks on st r)).2 c n)) (dstOf ks r) done.length b l E S lg tc wr nx κ)) = true at he
        rw [fcN_eq] at he
        obtain ⟨v, m', nx', t, w, hκ, s, h1, h2, h3, h4, h5, h6⟩ := fit nx.nat 0 0 _ he
        · rw [Nat.zero_or] at h5 h6
          subst h5; subst h6
          have hsrc : ∀ al, r.guard = none → srcA ks st r.op = some al → AlR ρ st.dep E ts al s.v := fun al hg e => by
            obtain ⟨N0, hN⟩ := h1
            exact src (hN N0 (Nat.le_refl _)) hg e
          obtain ⟨E', S', q1, q2, q3⟩ := dok.go E S ts v s.v hr hdep h2 hsrc
          have hnew : newBits nx nx' = 2 ^ s.nx - 2 ^ nx.nat := by rw [h4]; rfl
          rw [drLog_eq, hnew] at hκ
          by_cases hz : s.tc = 0 ∧ s.wr = 0 ∧ 2 ^ s.nx - 2 ^ nx.nat = 0
          · rw [decide_eq_true hz] at hκ
            simp only at hκ
            rw [q1] at hκ
            obtain ⟨z1, z2, z3⟩ := hz
            refine RCE.draw (s := s) h1 ?_ ?_ κ hκ
            · rw [z1, z2, z3]; exact DnR.apart0
            · rw [z1, z2, z3]
              simp only [Nat.or_zero, show lowBits lg 0 = 0 by simp [lowBits]]
              have ih := drawL_fit hc hk rs bs (stOf ks on st r) (done ++ [(0, 0)]) l hl.zero
              rw [← len1 (0, 0)] at ih
              have := ih E' S' (putT ts r.dst s.v) m' nx' s.h q2 q3 h3 lg tc wr
              rw [← h4] at this
              exact this
          · rw [decide_eq_false hz] at hκ
            simp only at hκ
            cases hap : apart2 b (s.tc ||| (2 ^ s.nx - 2 ^ nx.nat)) (s.wr ||| (2 ^ s.nx - 2 ^ nx.nat)) l with
            | false => rw [hap] at hκ; cases hκ
            | true =>
              rw [hap] at hκ
              simp only at hκ
              rw [q1] at hκ
              refine RCE.draw (s := s) h1 (hl.apart hap) ?_ κ hκ
              have ih := drawL_fit hc hk rs bs (stOf ks on st r) (done ++ [(s.tc ||| (2 ^ s.nx - 2 ^ nx.nat), s.wr ||| (2 ^ s.nx - 2 ^ nx.nat))]) _ (hl.cons (s.tc ||| (2 ^ s.nx - 2 ^ nx.nat)) (s.wr ||| (2 ^ s.nx - 2 ^ nx.nat)))
              rw [← len1 _] at ih
              have := ih E' S' (putT ts r.dst s.v) m' nx' s.h q2 q3 h3 lg (tc ||| lowBits lg s.tc) (wr ||| lowBits lg s.wr)
              rw [← h4] at this
              exact this
end
end Go.Proofs.YtamfoplfbidolaaGreatDoorX
/- The second executor: code, calls: what it answers is what the engine answers. -/
namespace Go.Proofs.YtamfoplfbidolaaGreatDoorX
open Go Go.Proofs.YtamfoplfbidolaaGreatDoorE Go.Proofs.YtamfoplfbidolaaGreatDoorB
set_option linter.unusedVariables false
set_option linter.unusedSimpArgs false

/-- What code assigns. -/
def asgR : List AR → List Nat
  | [] => []
  | r :: rs => match r.dst with
    | some d => d :: asgR rs
    | none => asgR rs
def asg : AC → List Nat
  | .reg rs _ _ => asgR rs
  | .seq a b => asg a ++ asg b
  | .cond _ a b => asg a ++ asg b
  | .blk _ a => asg a
  | .loop a => asg a
  | _ => []
noncomputable def trC (ks on : List Nat) (nt : Nat) : AC → TS → (TS → Code) → Code
  | .skip, st, k => k st
  | .reg rs false _, st, k => trR ks on nt rs st k
  | .reg rs true bef, st, k => cDraw (trD ks on nt rs bef 0 st).1 (k (trD ks on nt rs bef 0 st).2)
  | .seq a b, st, k => trC ks on nt a st fun st => trC ks on nt b st k
  | .cond x a b, st, k => cCond (opd ks st x) (trC ks on nt a st fun _ => cEnd) (trC ks on nt b st fun _ => cEnd) (k (clr (asg a ++ asg b) st))
  | .blk id a, st, k => cBlk id (trC ks on nt a st fun _ => cEnd) (k (clr (asg a) st))
  | .loop a, st, _ => cLoop (trC ks on nt a (clr (asg a) st) fun _ => cEnd)
  | .exit i, _, _ => cExit i
  | .ret, _, _ => cRet

/-! ### What is not assigned stays -/
theorem keepR {call : FuncId → List AV → A AV} : ∀ (rs : List AR) {ts : List AV} {h : Mem} {n lg : Nat} {s : Rs (List AV)}, regRun call rs ts h n lg = some s → ∀ t, memN (asgR rs) t = false → s.v.getD t (.tup []) = ts.getD t (.tup [])
  | [], ts, h, n, lg, s, e, t, ht => by
    have := A.ret_inv e
    subst this; rfl
  | r :: rs, ts, h, n, lg, s, e, t, ht => by
    obtain ⟨r1, r2, e1, e2, rfl⟩ := A.bind_inv e
    have hm : memN (asgR rs) t = false ∧ r.dst ≠ some t := by
      unfold asgR at ht
      cases hd : r.dst with
      | none => rw [hd] at ht; exact ⟨ht, fun h => nomatch h⟩
      | some d =>
        rw [hd] at ht
        simp only [memN] at ht
        cases hb : Nat.beq d t <;> rw [hb] at ht
        · exact ⟨ht, fun h => by cases h; rw [Nat.beq_refl] at hb; cases hb⟩
        · cases ht
    have ih := keepR rs e2 t hm.1
    show r2.v.getD t (.tup []) = _
    rw [ih]
    cases hd : r.dst with
    | none => rfl
    | some d =>
      have hne : d ≠ t := fun h => hm.2 (by rw [hd, h])
      show (ts.set d r1.v).getD t (.tup []) = _
      rw [List.getD_eq_getElem?_getD, List.getElem?_set_ne hne, List.getD_eq_getElem?_getD]
theorem keepL {call : FuncId → List AV → A AV} : ∀ (rs : List AR) {ts : List AV} {h : Mem} {n : Nat} {s : Rs (List AV)} {l : List (Nat × Nat)}, regLog call rs ts h n = some (s, l) → ∀ t, memN (asgR rs) t = false → s.v.getD t (.tup []) = ts.getD t (.tup [])
  | [], ts, h, n, s, l, e, t, ht => by
    cases e; rfl
  | r :: rs, ts, h, n, s, l, e, t, ht => by
    simp only [regLog] at e
    cases h1 : stepR call ts r h n n with
    | none => rw [h1] at e; cases e
    | some r1 =>
      rw [h1] at e
      simp only at e
      cases h2 : regLog call rs (putT ts r.dst r1.v) r1.h r1.nx with
      | none => rw [h2] at e; cases e
      | some p =>
        obtain ⟨q, l'⟩ := p
        rw [h2] at e
        cases e
        have hm : memN (asgR rs) t = false ∧ r.dst ≠ some t := by
          unfold asgR at ht
          cases hd : r.dst with
          | none => rw [hd] at ht; exact ⟨ht, fun h => nomatch h⟩
          | some d =>
            rw [hd] at ht
            simp only [memN] at ht
            cases hb : Nat.beq d t <;> rw [hb] at ht
            · exact ⟨ht, fun h => by cases h; rw [Nat.beq_refl] at hb; cases hb⟩
            · cases ht
        have ih := keepL rs h2 t hm.1
        show q.v.getD t (.tup []) = _
        rw [ih]
        cases hd : r.dst with
        | none => rfl
        | some d =>
          have hne : d ≠ t := fun h => hm.2 (by rw [hd, h])
          show (ts.set d r1.v).getD t (.tup []) = _
          rw [List.getD_eq_getElem?_getD, List.getElem?_set_ne hne, List.getD_eq_getElem?_getD]
theorem memN_app {a b : List Nat} {t : Nat} (h : memN (a ++ b) t = false) : memN a t = false ∧ memN b t = false := by
  induction a with
  | nil => exact ⟨rfl, h⟩
  | cons u a ih =>
    simp only [List.cons_append, memN] at h ⊢
    cases hb : Nat.beq u t <;> rw [hb] at h
    · exact ih h
    · cases h
theorem keepC {T : FuncId → Option AF} : ∀ (N : Nat) (c : AC) {ts : List AV} {h : Mem} {n lg : Nat} {s : Rs (Ex × List AV)}, xC T N c ts h n lg = some s → ∀ t, memN (asg c) t = false → s.v.2.getD t (.tup []) = ts.getD t (.tup [])
  | 0, c, ts, h, n, lg, s, e, t, ht => by unfold xC at e; simp [A.fail] at e
  | N + 1, c, ts, h, n, lg, s, e, t, ht => by
    cases c with
    | skip => unfold xC at e; have := A.ret_inv e; subst this; rfl
    | exit i => unfold xC at e; have := A.ret_inv e; subst this; rfl
    | ret => unfold xC at e; have := A.ret_inv e; subst this; rfl
    | reg rs dr bef =>
      cases dr with
      | false =>
        unfold xC at e
        obtain ⟨r1, r2, e1, e2, rfl⟩ := A.bind_inv e
        have := A.ret_inv e2
        subst this
        exact keepR rs e1 t ht
      | true =>
        unfold xC at e
        obtain ⟨r1, r2, e1, e2, rfl⟩ := A.bind_inv e
        have := A.ret_inv e2
        subst this
        unfold regDraw at e1
        split at e1
        · cases e1
        · rename_i q l hq
          split at e1
          · cases e1
            exact keepL rs hq t ht
          · cases e1
    | seq a b =>
      unfold xC at e
      obtain ⟨r1, r2, e1, e2, rfl⟩ := A.bind_inv e
      obtain ⟨m1, m2⟩ := memN_app (show memN (asg a ++ asg b) t = false from ht)
      have h1 := keepC N a e1 t m1
      cases hx : r1.v.1 with
      | nor => rw [hx] at e2; exact (keepC N b e2 t m2).trans h1
      | exit i => rw [hx] at e2; have := A.ret_inv e2; subst this; exact h1
      | ret => rw [hx] at e2; have := A.ret_inv e2; subst this; exact h1
    | cond x a b =>
      obtain ⟨m1, m2⟩ := memN_app (show memN (asg a ++ asg b) t = false from ht)
      unfold xC at e
      generalize x.ev ts = v at e
      cases v <;> first | (simp [A.fail] at e; done) | skip
      rename_i q
      cases q with
      | true => exact keepC N a e t m1
      | false => exact keepC N b e t m2
    | blk id a =>
      unfold xC at e
      obtain ⟨r1, r2, e1, e2, rfl⟩ := A.bind_inv e
      have h1 := keepC N a e1 t ht
      cases hx : r1.v.1 with
      | nor => rw [hx] at e2; have := A.ret_inv e2; subst this; exact h1
      | ret => rw [hx] at e2; have := A.ret_inv e2; subst this; exact h1
      | exit i =>
        rw [hx] at e2
        simp only at e2
        cases hb : Nat.beq i id <;> rw [hb] at e2 <;> (have := A.ret_inv e2; subst this; exact h1)
    | loop a =>
      unfold xC at e
      obtain ⟨r1, r2, e1, e2, rfl⟩ := A.bind_inv e
      have h1 := keepC N a e1 t ht
      cases hx : r1.v.1 with
      | nor => rw [hx] at e2; exact (keepC N (.loop a) e2 t ht).trans h1
      | exit i => rw [hx] at e2; have := A.ret_inv e2; subst this; exact h1
      | ret => rw [hx] at e2; have := A.ret_inv e2; subst this; exact h1

section
variable {ρ : Nat → Int} {ks on : List Nat} {nt : Nat}
theorem clrL_mem {ds : List Nat} {t : Nat} {a : Al} : ∀ {l : List (Nat × Al)}, (t, a) ∈ clrL ds l → (t, a) ∈ l ∧ memN ds t = false ∧ alIn ds a = false
  | [], h => by cases h
  | (u, b) :: l, h => by
    unfold clrL at h
    cases hb : (memN ds u || alIn ds b) <;> rw [hb] at h
    · rcases List.mem_cons.1 h with h | h
      · cases h
        simp only [Bool.or_eq_false_iff] at hb
        exact ⟨by simp, hb.1, hb.2⟩
      · obtain ⟨h1, h2⟩ := clrL_mem h
        exact ⟨List.mem_cons_of_mem _ h1, h2⟩
    · obtain ⟨h1, h2⟩ := clrL_mem h
      exact ⟨List.mem_cons_of_mem _ h1, h2⟩
/-- Behind code: what it did not assign is known as before. -/
theorem Rel.clr {st : TS} {E : List V} {S S' : Tp V} {ts ts' : List AV} {ds : List Nat} (g : Rel ρ ks nt st E S ts) (k : KR ρ ks nt S' ts') (hk : ∀ t, memN ds t = false → ts'.getD t (.tup []) = ts.getD t (.tup [])) : Rel ρ ks nt (Go.Proofs.YtamfoplfbidolaaGreatDoorX.clr ds st) [] S' ts' := by
  refine ⟨k.len, k.kept, fun t a h => ?_⟩
  obtain ⟨h1, h2, h3⟩ := clrL_mem h
  rw [hk t h2]
  have := g.al t a h1
  cases a with
  | c v => exact this
  | s u =>
    have hu : memN ds u = false := h3
    show ts.getD t _ = ts'.getD u _
    rw [hk u hu]; exact this
  | e i => cases h3
def thenK (kx : List AV → A (Ex × List AV)) (r : Ex × List AV) : A (Ex × List AV) := match r.1 with
  | .nor => kx r.2
  | _ => A.ret r
theorem thenK_ret (r : Ex × List AV) : thenK (fun ts => A.ret (.nor, ts)) r = A.ret r := by
  obtain ⟨e, ts⟩ := r
  cases e <;> rfl
theorem A.bind_retR {α : Type} (x : A α) : A.bind x (fun a => A.ret a) = x := by
  funext h n lg
  unfold A.bind A.ret
  cases x h n lg with
  | none => rfl
  | some r => simp
theorem cEnd_fit {c : Call2} {n : Nat} (st : TS) : KFit ρ ks nt st (cEnd c n) (fun _ ts => A.ret (.nor, ts)) := fun E S ts m nx h hr hdep hm lg tc wr κ he =>
  ⟨.nor, S, m, nx, tc, wr, he, _, .const rfl, rfl, hr.kr, hm, rfl, by simp, by simp⟩
/-- Code that stands alone. -/
def AFit (ρ : Nat → Int) (ks : List Nat) (nt : Nat) (st : TS) (kt : Kt) (x : Nat → List AV → A (Ex × List AV)) : Prop := KFit ρ ks nt st kt x
theorem andE_fit {k : Kt} {kx : Nat → List AV → A (Ex × List AV)} {st : TS} (hk : KFit ρ ks nt st k kx) {tc wr lg : Nat} {e : Ex} {S : Tp V} {m : Tm} {nx : Pa} {s : Rs (Ex × List AV)} {x : Nat → A (Ex × List AV)} {h : Mem} {n : Nat} {tc0 wr0 : Nat}
    (h1 : Ev (fun N => x N h n lg) s) (he : s.v.1 = e) (hm : MR ρ m nx s.h) (hn : s.nx = nx.nat) (kr : KR ρ ks nt S s.v.2) (hrel : Rel ρ ks nt st [] S s.v.2) (hd : st.dep = 0) (h5 : tc = tc0 ||| s.tc) (h6 : wr = wr0 ||| s.wr) :
    RCE ρ ks nt tc0 wr0 (fun κ => andE k lg κ e S m nx tc wr) (fun N => A.bind (x N) (thenK (kx N)) h n lg) := by
  refine RCE.up (t := 0) (w := 0) (f := fun N => thenK (kx N)) h1 ?_
  rw [← h5, ← h6]
  subst he
  cases hx : s.v.1 with
  | nor =>
    have hf : (fun N => thenK (kx N) s.v s.h s.nx lg) = fun N => kx N s.v.2 s.h nx.nat lg := funext fun N => by unfold thenK; rw [hx, hn]
    rw [hf]
    exact hk [] S s.v.2 m nx s.h hrel hd.symm hm lg tc wr
  | exit i =>
    intro κ he'
    refine ⟨.exit i, S, m, nx, tc, wr, he', ⟨s.v, s.h, s.nx, 0, 0⟩, ⟨0, fun N _ => ?_⟩, hx, kr, hm, hn, by simp, by simp⟩
    show thenK (kx N) s.v s.h s.nx lg = _
    unfold thenK; rw [hx]; rfl
  | ret =>
    intro κ he'
    refine ⟨.ret, S, m, nx, tc, wr, he', ⟨s.v, s.h, s.nx, 0, 0⟩, ⟨0, fun N _ => ?_⟩, hx, kr, hm, hn, by simp, by simp⟩
    show thenK (kx N) s.v s.h s.nx lg = _
    unfold thenK; rw [hx]; rfl
theorem xC_reg0 {T : FuncId → Option AF} (N : Nat) (rs : List AR) (bef : List Nat) (ts : List AV) : xC T (N + 1) (.reg rs false bef) ts = A.bind (regRun (callN T N) rs ts) fun ts => A.ret (.nor, ts) := by
  unfold xC; rfl
theorem xC_reg1 {T : FuncId → Option AF} (N : Nat) (rs : List AR) (bef : List Nat) (ts : List AV) : xC T (N + 1) (.reg rs true bef) ts = A.bind (regDraw (callN T N) rs bef ts) fun ts => A.ret (.nor, ts) := by
  unfold xC; rfl
theorem xC_seq' {T : FuncId → Option AF} (N : Nat) (a b : AC) (ts : List AV) : xC T (N + 1) (.seq a b) ts = A.bind (xC T N a ts) (thenK fun ts => xC T N b ts) := by
  rw [xC]
  exact congrArg (A.bind _) (funext fun r => by
    obtain ⟨e, ts⟩ := r
    cases e <;> rfl)
theorem xC_loop' {T : FuncId → Option AF} (N : Nat) (a : AC) (ts : List AV) : xC T (N + 1) (.loop a) ts = A.bind (xC T N a ts) (thenK fun ts => xC T N (.loop a) ts) := by
  rw [xC]
  exact congrArg (A.bind _) (funext fun r => by
    obtain ⟨e, ts⟩ := r
    cases e <;> rfl)
def blkR (id : Nat) (r : Ex × List AV) : A (Ex × List AV) := match r.1 with
  | .exit i => match Nat.beq i id with
    | true => A.ret (.nor, r.2)
    | false => A.ret r
  | _ => A.ret r
theorem xC_blk' {T : FuncId → Option AF} (N id : Nat) (a : AC) (ts : List AV) : xC T (N + 1) (.blk id a) ts = A.bind (xC T N a ts) (blkR id) := by
  rw [xC]
  exact congrArg (A.bind _) (funext fun r => by
    obtain ⟨e, ts⟩ := r
    cases e <;> rfl)
theorem thenK_thenK (f g : List AV → A (Ex × List AV)) (r : Ex × List AV) : A.bind (thenK f r) (thenK g) = thenK (fun ts => A.bind (f ts) (thenK g)) r := by
  obtain ⟨e, ts⟩ := r
  cases e
  · rfl
  · show A.bind (A.ret _) _ = _; rw [A.bind_ret']; rfl
  · show A.bind (A.ret _) _ = _; rw [A.bind_ret']; rfl
theorem bind_thenK (x : A (Ex × List AV)) (f g : List AV → A (Ex × List AV)) : A.bind (A.bind x (thenK f)) (thenK g) = A.bind x (thenK fun ts => A.bind (f ts) (thenK g)) := by
  rw [A.bind_assoc]
  congr 1
  funext r
  exact thenK_thenK f g r
theorem clrL_t {ds : List Nat} {u : Nat} {b : Al} {l : List (Nat × Al)} (h : (memN ds u || alIn ds b) = true) : clrL ds ((u, b) :: l) = clrL ds l := by
  simp only [clrL, h]
theorem clrL_f {ds : List Nat} {u : Nat} {b : Al} {l : List (Nat × Al)} (h : (memN ds u || alIn ds b) = false) : clrL ds ((u, b) :: l) = (u, b) :: clrL ds l := by
  simp only [clrL, h]
theorem clrL_clrL (ds : List Nat) : ∀ l : List (Nat × Al), clrL ds (clrL ds l) = clrL ds l
  | [] => rfl
  | (u, b) :: l => by
    cases hb : (memN ds u || alIn ds b) with
    | true => rw [clrL_t hb, clrL_clrL ds l]
    | false => rw [clrL_f hb, clrL_f hb, clrL_clrL ds l]
theorem andK_fit {T : FuncId → Option AF} {k : Kt} {kx : Nat → List AV → A (Ex × List AV)} {st st' : TS} {a : AC} {ka : Kt} (ha : KFit ρ ks nt st ka (fun N ts => xC T N a ts)) (hk : KFit ρ ks nt st' k kx) (hd : st'.dep = 0)
    {E : List V} {S : Tp V} {ts : List AV} {m : Tm} {nx : Pa} {h : Mem} (hr : Rel ρ ks nt st E S ts) (hdep : E.length = st.dep) (hm : MR ρ m nx h) (hc : ∀ S1 ts1, KR ρ ks nt S1 ts1 → (∀ t, memN (asg a) t = false → ts1.getD t (.tup []) = ts.getD t (.tup [])) → Rel ρ ks nt st' [] S1 ts1) (lg tc wr : Nat) :
    RCE ρ ks nt tc wr (fun κ => ka E S m nx lg tc wr (andE k lg κ)) (fun N => A.bind (xC T N a ts) (thenK (kx N)) h nx.nat lg) := by
  intro κ he
  obtain ⟨e1, S1, m1, nx1, tc1, wr1, hκ, s, h1, h2, h3, h4, h5, h6, h7⟩ := ha E S ts m nx h hr hdep hm lg tc wr _ he
  have hkeep : ∀ t, memN (asg a) t = false → s.v.2.getD t (.tup []) = ts.getD t (.tup []) := by
    obtain ⟨N0, hN⟩ := h1
    exact keepC N0 a (hN N0 (Nat.le_refl _))
  exact andE_fit hk h1 h2 h4 h5 h3 (hc S1 s.v.2 h3 hkeep) hd h6 h7 κ hκ
theorem Lp_fit {T : FuncId → Option AF} {st : TS} {a : AC} {ka : Kt} (ha : KFit ρ ks nt (Go.Proofs.YtamfoplfbidolaaGreatDoorX.clr (asg a) st) ka (fun N ts => xC T N a ts)) : ∀ (j : Nat) (kx : Nat → List AV → A (Ex × List AV)), KFit ρ ks nt (Go.Proofs.YtamfoplfbidolaaGreatDoorX.clr (asg a) st) (Lp ka j) (fun N ts => A.bind (xC T N (.loop a) ts) (thenK (kx N)))
  | 0, kx => fun E S ts m nx h hr hdep hm lg tc wr κ he' => by cases he'
  | j + 1, kx => KFit.succ (by
    intro E S ts m nx h hr hdep hm lg tc wr
    have hE : E = [] := List.length_eq_zero_iff.1 hdep
    subst hE
    have ih := Lp_fit ha j (fun N => kx (N + 1))
    have hx : (fun N => A.bind (xC T (N + 1) (.loop a) ts) (thenK (kx (N + 1))) h nx.nat lg) = fun N => A.bind (xC T N a ts) (thenK fun ts => A.bind (xC T N (.loop a) ts) (thenK (kx (N + 1)))) h nx.nat lg := funext fun N => by rw [xC_loop', bind_thenK]
    rw [hx]
    show RCE ρ ks nt tc wr (fun κ => ka [] S m nx lg tc wr (andE (Lp ka j) lg κ)) _
    refine andK_fit (kx := fun N ts => A.bind (xC T N (.loop a) ts) (thenK (kx (N + 1)))) ha ih rfl hr hdep hm (fun S1 ts1 kr hkeep => ?_) lg tc wr
    have := hr.clr kr hkeep
    unfold Go.Proofs.YtamfoplfbidolaaGreatDoorX.clr at this ⊢
    simp only [clrL_clrL] at this
    exact this)
/-- CODE: what the second executor answers is what the engine answers. -/
theorem trC_fit {T : FuncId → Option AF} {c : Call2} (hc : CallFit ρ c (callN T)) {n : Nat} : ∀ (a : AC) (st : TS) {k : TS → Code} {kx : Nat → List AV → A (Ex × List AV)}, (∀ st, KFit ρ ks nt st (k st c n) kx) →
    KFit ρ ks nt st (trC ks on nt a st k c n) (fun N ts => A.bind (xC T N a ts) (thenK (kx N)))
  | .skip, st, k, kx, hk => KFit.succ ((hk st).shift.eq fun N ts => by
      have : xC T (N + 1) .skip ts = A.ret (.nor, ts) := by unfold xC; rfl
      rw [this, A.bind_ret']; rfl)
  | .exit i, st, k, kx, hk => KFit.succ (by
      intro E S ts m nx h hr hdep hm lg tc wr κ he
      have : ∀ N, A.bind (xC T (N + 1) (.exit i) ts) (thenK (kx (N + 1))) h nx.nat lg = some ⟨(.exit i, ts), h, nx.nat, 0, 0⟩ := fun N => by
        have : xC T (N + 1) (.exit i) ts = A.ret (.exit i, ts) := by unfold xC; rfl
        rw [this, A.bind_ret']; rfl
      exact ⟨.exit i, S, m, nx, tc, wr, he, _, ⟨0, fun N _ => this N⟩, rfl, hr.kr, hm, rfl, by simp, by simp⟩)
  | .ret, st, k, kx, hk => KFit.succ (by
      intro E S ts m nx h hr hdep hm lg tc wr κ he
      have : ∀ N, A.bind (xC T (N + 1) .ret ts) (thenK (kx (N + 1))) h nx.nat lg = some ⟨(.ret, ts), h, nx.nat, 0, 0⟩ := fun N => by
        have : xC T (N + 1) .ret ts = A.ret (.ret, ts) := by unfold xC; rfl
        rw [this, A.bind_ret']; rfl
      exact ⟨.ret, S, m, nx, tc, wr, he, _, ⟨0, fun N _ => this N⟩, rfl, hr.kr, hm, rfl, by simp, by simp⟩)
  | .reg rs false bef, st, k, kx, hk => KFit.succ ((trR_fit (on := on) hc (fun st => (hk st).shift) rs st).eq fun N ts => by
      rw [xC_reg0, A.bind_assoc]
      congr 1
      funext ts
      rw [A.bind_ret']; rfl)
  | .reg rs true bef, st, k, kx, hk => KFit.succ ((drawL_fit (on := on) hc (fun st => (hk st).shift) rs bef st [] [] (fun i x h => by simp at h)).eq fun N ts => by
      rw [xC_reg1, A.bind_assoc, ← DX_draw]
      congr 1
      funext ts
      rw [A.bind_ret']; rfl)
  | .seq a b, st, k, kx, hk => KFit.succ ((trC_fit hc a st (k := fun st => trC ks on nt b st k) (kx := fun N ts => A.bind (xC T N b ts) (thenK (kx (N + 1)))) (fun st => trC_fit hc b st (kx := fun N => kx (N + 1)) fun st => (hk st).shift)).eq fun N ts => by
      rw [xC_seq', bind_thenK])
  | .cond x a b, st, k, kx, hk => KFit.succ (by
      intro E S ts m nx h hr hdep hm lg tc wr
      obtain ⟨v, hu, hv⟩ := hr.opd x
      have hshow : (fun κ => trC ks on nt (.cond x a b) st k c n E S m nx lg tc wr κ) = fun κ => condV (trC ks on nt a st fun _ => cEnd) (trC ks on nt b st fun _ => cEnd) (k (Go.Proofs.YtamfoplfbidolaaGreatDoorX.clr (asg a ++ asg b) st)) v c n E S m nx lg tc wr κ := funext fun κ => hu _
      show RCE ρ ks nt tc wr (fun κ => trC ks on nt (.cond x a b) st k c n E S m nx lg tc wr κ) _
      rw [hshow]
      clear hshow hu
      have alone : ∀ a, KFit ρ ks nt st (trC ks on nt a st (fun _ => cEnd) c n) (fun N ts => A.bind (xC T N a ts) (thenK fun ts => A.ret (.nor, ts))) → KFit ρ ks nt st (trC ks on nt a st (fun _ => cEnd) c n) (fun N ts => xC T N a ts) := fun a g => g.eq fun N ts => by
        rw [show (thenK fun ts => A.ret (.nor, ts)) = fun a => A.ret a from funext thenK_ret, A.bind_retR]
      have fa := alone a (trC_fit hc a st (k := fun _ => cEnd) (kx := fun _ ts => A.ret (.nor, ts)) cEnd_fit)
      have fb := alone b (trC_fit hc b st (k := fun _ => cEnd) (kx := fun _ ts => A.ret (.nor, ts)) cEnd_fit)
      generalize hw : x.ev ts = w at hv
      have main : ∀ t : Bool, w = .bool t → RCE ρ ks nt tc wr (fun κ => condB (trC ks on nt a st fun _ => cEnd) (trC ks on nt b st fun _ => cEnd) (k (Go.Proofs.YtamfoplfbidolaaGreatDoorX.clr (asg a ++ asg b) st)) t c n E S m nx lg tc wr κ) (fun N => A.bind (xC T (N + 1) (.cond x a b) ts) (thenK (kx (N + 1))) h nx.nat lg) := fun t hwt => by
        have hx : ∀ N, xC T (N + 1) (.cond x a b) ts = (match (generalizing := false) t with | true => xC T N a ts | false => xC T N b ts) := fun N => by
          rw [xC, hw, hwt]
          cases t <;> rfl
        have hk' := (hk (Go.Proofs.YtamfoplfbidolaaGreatDoorX.clr (asg a ++ asg b) st)).shift
        cases t with
        | true =>
          have : (fun N => A.bind (xC T (N + 1) (.cond x a b) ts) (thenK (kx (N + 1))) h nx.nat lg) = fun N => A.bind (xC T N a ts) (thenK (kx (N + 1))) h nx.nat lg := funext fun N => by rw [hx N]
          rw [this]
          exact andK_fit (kx := fun N => kx (N + 1)) fa hk' rfl hr hdep hm (fun S1 ts1 kr hkeep => hr.clr kr fun t ht => hkeep t (memN_app ht).1) lg tc wr
        | false =>
          have : (fun N => A.bind (xC T (N + 1) (.cond x a b) ts) (thenK (kx (N + 1))) h nx.nat lg) = fun N => A.bind (xC T N b ts) (thenK (kx (N + 1))) h nx.nat lg := funext fun N => by rw [hx N]
          rw [this]
          exact andK_fit (kx := fun N => kx (N + 1)) fb hk' rfl hr hdep hm (fun S1 ts1 kr hkeep => hr.clr kr fun t ht => hkeep t (memN_app ht).2) lg tc wr
      cases v <;> first | (intro κ he'; cases he'; done) | skip
      · cases hv
        exact main _ rfl
      · cases hv
        rename_i t
        intro κ he
        change Bool.rec (motive := fun _ => Bool) false (condB (trC ks on nt a st fun _ => cEnd) (trC ks on nt b st fun _ => cEnd) (k (Go.Proofs.YtamfoplfbidolaaGreatDoorX.clr (asg a ++ asg b) st)) false c n E S m nx lg tc wr κ) (condB (trC ks on nt a st fun _ => cEnd) (trC ks on nt b st fun _ => cEnd) (k (Go.Proofs.YtamfoplfbidolaaGreatDoorX.clr (asg a ++ asg b) st)) true c n E S m nx lg tc wr κ) = true at he
        have hb : condB (trC ks on nt a st fun _ => cEnd) (trC ks on nt b st fun _ => cEnd) (k (Go.Proofs.YtamfoplfbidolaaGreatDoorX.clr (asg a ++ asg b) st)) true c n E S m nx lg tc wr κ = true ∧ condB (trC ks on nt a st fun _ => cEnd) (trC ks on nt b st fun _ => cEnd) (k (Go.Proofs.YtamfoplfbidolaaGreatDoorX.clr (asg a ++ asg b) st)) false c n E S m nx lg tc wr κ = true := by
          revert he
          generalize condB (trC ks on nt a st fun _ => cEnd) (trC ks on nt b st fun _ => cEnd) (k (Go.Proofs.YtamfoplfbidolaaGreatDoorX.clr (asg a ++ asg b) st)) true c n E S m nx lg tc wr κ = p
          cases p
          · intro he; cases he
          · intro he; exact ⟨rfl, he⟩
        cases t
        · exact main false rfl κ hb.2
        · exact main true rfl κ hb.1)
  | .blk id a, st, k, kx, hk => KFit.succ (by
      intro E S ts m nx h hr hdep hm lg tc wr
      have fa : KFit ρ ks nt st (trC ks on nt a st (fun _ => cEnd) c n) (fun N ts => xC T N a ts) := (trC_fit hc a st (k := fun _ => cEnd) (kx := fun _ ts => A.ret (.nor, ts)) cEnd_fit).eq fun N ts => by
        rw [show (thenK fun ts => A.ret (.nor, ts)) = fun a => A.ret a from funext thenK_ret, A.bind_retR]
      have hk' := (hk (Go.Proofs.YtamfoplfbidolaaGreatDoorX.clr (asg a) st)).shift
      intro κ he
      obtain ⟨e1, S1, m1, nx1, tc1, wr1, hκ, s, h1, h2, h3, h4, h5, h6, h7⟩ := fa E S ts m nx h hr hdep hm lg tc wr (blkE id (k (Go.Proofs.YtamfoplfbidolaaGreatDoorX.clr (asg a) st) c n) lg κ) he
      · have hkeep : ∀ t, memN (asg a) t = false → s.v.2.getD t (.tup []) = ts.getD t (.tup []) := by
          obtain ⟨N0, hN⟩ := h1
          exact keepC N0 a (hN N0 (Nat.le_refl _))
        have hrel := hr.clr h3 hkeep
        have hx : (fun N => A.bind (xC T (N + 1) (.blk id a) ts) (thenK (kx (N + 1))) h nx.nat lg) = fun N => A.bind (xC T N a ts) (fun r => A.bind (blkR id r) (thenK (kx (N + 1)))) h nx.nat lg := funext fun N => by
          rw [xC_blk', A.bind_assoc]
        rw [hx]
        refine RCE.up (t := 0) (w := 0) (rc := fun κ => blkE id (k (Go.Proofs.YtamfoplfbidolaaGreatDoorX.clr (asg a) st) c n) lg κ e1 S1 m1 nx1 tc1 wr1) (f := fun N (r : Ex × List AV) => A.bind (blkR id r) (thenK (kx (N + 1)))) h1 ?_ κ hκ
        rw [← h6, ← h7]
        have nor : (∀ N, A.bind (blkR id s.v) (thenK (kx (N + 1))) = kx (N + 1) s.v.2) → RCE ρ ks nt tc1 wr1 (k (Go.Proofs.YtamfoplfbidolaaGreatDoorX.clr (asg a) st) c n [] S1 m1 nx1 lg tc1 wr1) (fun N => A.bind (blkR id s.v) (thenK (kx (N + 1))) s.h s.nx lg) := fun e => by
          have : (fun N => A.bind (blkR id s.v) (thenK (kx (N + 1))) s.h s.nx lg) = fun N => kx (N + 1) s.v.2 s.h nx1.nat lg := funext fun N => by rw [e N, h5]
          rw [this]
          exact hk' [] S1 s.v.2 m1 nx1 s.h hrel rfl h4 lg tc1 wr1
        have out : (∀ N, A.bind (blkR id s.v) (thenK (kx (N + 1))) = A.ret s.v) → RCE ρ ks nt tc1 wr1 (fun κ => κ s.v.1 S1 m1 nx1 tc1 wr1) (fun N => A.bind (blkR id s.v) (thenK (kx (N + 1))) s.h s.nx lg) := fun e => by
          intro κ he'
          refine ⟨s.v.1, S1, m1, nx1, tc1, wr1, he', ⟨s.v, s.h, s.nx, 0, 0⟩, ⟨0, fun N _ => ?_⟩, rfl, h3, h4, h5, by simp, by simp⟩
          simp only [e N]
          rfl
        subst h2
        cases hv : s.v.1 with
        | nor =>
          have hb : blkR id s.v = A.ret s.v := by unfold blkR; rw [hv]
          refine nor fun N => ?_
          rw [hb, A.bind_ret']
          unfold thenK; rw [hv]
        | ret =>
          have hb : blkR id s.v = A.ret s.v := by unfold blkR; rw [hv]
          rw [hv] at out
          refine out fun N => ?_
          rw [hb, A.bind_ret']
          unfold thenK; rw [hv]
        | exit i =>
          rw [hv] at out
          show RCE ρ ks nt tc1 wr1 (fun κ => Bool.rec (motive := fun _ => Bool) (κ (.exit i) S1 m1 nx1 tc1 wr1) (k (Go.Proofs.YtamfoplfbidolaaGreatDoorX.clr (asg a) st) c n [] S1 m1 nx1 lg tc1 wr1 κ) (Nat.beq i id)) _
          cases hb : Nat.beq i id with
          | true =>
            have hb : blkR id s.v = A.ret (.nor, s.v.2) := by unfold blkR; rw [hv]; simp only [hb]
            exact nor fun N => by rw [hb, A.bind_ret']; rfl
          | false =>
            have hb : blkR id s.v = A.ret s.v := by unfold blkR; rw [hv]; simp only [hb]
            refine out fun N => ?_
            rw [hb, A.bind_ret']
            unfold thenK; rw [hv])
  | .loop a, st, k, kx, hk => by
      have fa : KFit ρ ks nt (Go.Proofs.YtamfoplfbidolaaGreatDoorX.clr (asg a) st) (trC ks on nt a (Go.Proofs.YtamfoplfbidolaaGreatDoorX.clr (asg a) st) (fun _ => cEnd) c n) (fun N ts => xC T N a ts) := (trC_fit hc a (Go.Proofs.YtamfoplfbidolaaGreatDoorX.clr (asg a) st) (k := fun _ => cEnd) (kx := fun _ ts => A.ret (.nor, ts)) cEnd_fit).eq fun N ts => by
        rw [show (thenK fun ts => A.ret (.nor, ts)) = fun a => A.ret a from funext thenK_ret, A.bind_retR]
      have L := Lp_fit fa n kx
      intro E S ts m nx h hr hdep hm lg tc wr
      exact L [] S ts m nx h (hr.clr hr.kr fun _ _ => rfl) rfl hm lg tc wr
end
end Go.Proofs.YtamfoplfbidolaaGreatDoorX
/- The second executor: a table of functions. -/
namespace Go.Proofs.YtamfoplfbidolaaGreatDoorX
open Go Go.Proofs.YtamfoplfbidolaaGreatDoorE Go.Proofs.YtamfoplfbidolaaGreatDoorB
set_option linter.unusedVariables false
set_option linter.unusedSimpArgs false

noncomputable def resOf (ks : List Nat) : List ARes → Option (List Rs2)
  | [] => some []
  | .tmp i :: l => match pth ks i with
    | some p => match resOf ks l with
      | some r => some (.tmp p :: r)
      | none => none
    | none => none
  | .cell i n :: l => match pth ks i with
    | some p => match resOf ks l with
      | some r => some (.cell p n :: r)
      | none => none
    | none => none
noncomputable def psN (ks : List Nat) : Nat → Nat → List (Option Pa)
  | 0, _ => []
  | n + 1, i => pth ks i :: psN ks n (Nat.succ i)
/-- A function of the engine's, translated: so many slots (ks), those that are assigned once (on). -/
noncomputable def bodyOf (ks on : List Nat) (F : AF) : Code := trC ks on F.nt F.body ⟨[], 0⟩ fun _ => cEnd

def numOf (ρ : Nat → Int) : V → AV
  | .int k n => .int k n
  | .sym _ k c as => .int k (k.wrap (c + dotL ρ as 0))
  | _ => .nilm
/-- What a call is known to answer. -/
def OrcOk (ρ : Nat → Int) (T : FuncId → Option AF) (f : FuncId) (p : List V × V) : Prop := ∃ a, VR ρ p.2 a ∧ ∃ N0, ∀ N, N0 ≤ N → ∀ h nx lg, xF T N f (p.1.map (numOf ρ)) h nx lg = some ⟨a, h, nx, 0, 0⟩
/-- What a call is known to answer, where memory is as it is. -/
def StOk (ρ : Nat → Int) (T : FuncId → Option AF) (f : FuncId) (xs : List V) (l : List (Pa × B2)) (nx : Pa) (lg : Nat) (r : V) (l' : List (Pa × B2)) (nx' : Pa) (t w : Nat) : Prop :=
  ∀ as h, VRs ρ xs as → MR ρ (mkM l) nx h → ∃ s, Ev (fun N => xF T N f as h nx.nat lg) s ∧ VR ρ r s.v ∧ MR ρ (mkM l') nx' s.h ∧ s.nx = nx'.nat ∧ s.tc = t ∧ s.wr = w
def OrcK (ρ : Nat → Int) (T : FuncId → Option AF) (f : FuncId) : Orc → Prop
  | .v xs r => OrcOk ρ T f (xs, r)
  | .st xs l nx lg r l' nx' t w => StOk ρ T f xs l nx lg r l' nx' t w
/-- A table says of each function what the engine's is. -/
def TabOk (ρ : Nat → Int) (T : FuncId → Option AF) (tab : Tp F3) : Prop := ∀ f G, Tp.get f tab = some G → ∃ F ks on, T f.nat = some F ∧ resOf ks F.res = some G.res ∧ G.ps = psN ks 12 0 ∧ G.body = bodyOf ks on F ∧ ∀ p ∈ G.orc, OrcK ρ T f.nat p

section
variable {ρ : Nat → Int}
theorem sameS_eq : ∀ {as bs : List Int}, sameS as bs = true → as = bs
  | [], [], _ => rfl
  | [], _ :: _, h => by cases h
  | _ :: _, [], h => by cases h
  | a :: as, b :: bs, h => by
    simp only [sameS, Bool.and_eq_true] at h
    rw [eqF_eq h.1, sameS_eq h.2]
theorem sameV_ok {x y : V} {a : AV} (h : sameV x y = true) (g : VR ρ y a) : a = numOf ρ x := by
  cases x <;> simp only [sameV] at h <;> first | (cases h; done) | skip
  · cases y <;> simp only at h <;> first | (cases h; done) | skip
    simp only [Bool.and_eq_true, decide_eq_true_eq] at h
    cases g
    rw [← h.1, ← eqF_eq h.2]; rfl
  · cases y <;> simp only at h <;> first | (cases h; done) | skip
    simp only [Bool.and_eq_true, decide_eq_true_eq] at h
    cases g
    rw [← h.1.1, ← eqF_eq h.1.2, ← sameS_eq h.2]; rfl
theorem sameVs_ok : ∀ (xs : List V) {ys : List V} {as : List AV}, sameVs xs ys = true → VRs ρ ys as → as = xs.map (numOf ρ)
  | [], ys, as, h, g => by
    cases g with
    | nil => rfl
    | cons y a ys as hy hys => cases h
  | x :: xs, ys, as, h, g => by
    cases g with
    | nil => cases h
    | cons y a ys as hy hys =>
      simp only [sameVs, Bool.and_eq_true] at h
      rw [sameVs_ok xs h.2 hys, sameV_ok h.1 hy]
      rfl
/-- Parameters that are laid. -/
theorem laySl_get {ks : List Nat} : ∀ (n i : Nat) {vs : List V} {as : List AV} (S : Tp V) (rest : List AV) (pre : List AV), pre.length = i → VRs ρ vs as →
    (∀ t p, pth ks t = some p → VR ρ (orBad (Tp.get p S)) ((pre ++ as ++ rest).getD t (.tup []))) → ∀ t p, pth ks t = some p → VR ρ (orBad (Tp.get p (laySl (psN ks n i) vs S))) ((pre ++ as ++ rest).getD t (.tup []))
  | 0, i, vs, as, S, rest, pre, hi, hv, H => H
  | n + 1, i, _, _, S, rest, pre, hi, .nil, H => H
  | n + 1, i, _, _, S, rest, pre, hi, .cons v a vs as hv hvs, H => by
    have e : pre ++ (a :: as) ++ rest = (pre ++ [a]) ++ as ++ rest := by simp
    rw [e] at H ⊢
    show ∀ t p, pth ks t = some p → VR ρ (orBad (Tp.get p (laySl (psN ks n (Nat.succ i)) vs (Option.rec (motive := fun _ => Tp V) S (fun q => Tp.put (some v) q S) (pth ks i))))) _
    refine laySl_get n (Nat.succ i) _ rest (pre ++ [a]) (by simp [hi]) hvs ?_
    cases hp : pth ks i with
    | none => exact H
    | some q =>
      intro t p ht
      by_cases h : t = i
      · subst h
        rw [hp] at ht; cases ht
        show VR ρ (orBad (Tp.get q (Tp.put (some v) q S))) _
        rw [Tp.get_put_same]
        have : ((pre ++ [a]) ++ as ++ rest).getD t (.tup []) = a := by
          rw [List.getD_eq_getElem?_getD, List.append_assoc, List.append_assoc, List.getElem?_append_right (by omega), hi]
          simp
        rw [this]; exact hv
      · show VR ρ (orBad (Tp.get p (Tp.put (some v) q S))) _
        rw [Tp.get_put_ne _ _ _ _ (fun e => h (pth_inj (by rw [← e]; exact ht) hp))]
        exact H t p ht
theorem Rel.start {ks : List Nat} {nt : Nat} {vs : List V} {as : List AV} (hv : VRs ρ vs as) : Rel ρ ks nt ⟨[], 0⟩ [] (laySl (psN ks 12 0) vs .lf) (as ++ List.replicate (nt - as.length) (.tup [])) := by
  refine ⟨by simp only [List.length_append, List.length_replicate]; omega, ?_, fun t a h => by cases h⟩
  have := laySl_get (ks := ks) 12 0 (.lf) (List.replicate (nt - as.length) (.tup [])) [] rfl hv (fun t p _ => by rw [Tp.get_lf]; exact .bad _)
  simpa using this
/-- Results. -/
theorem res2_fit {ks : List Nat} {nt : Nat} {S : Tp V} {ts : List AV} (kr : KR ρ ks nt S ts) : ∀ (l : List ARes) {rs : List Rs2} {k : List V → K2} {f : List AV → A AV} {m : Tm} {nx : Pa} {h : Mem}, resOf ks l = some rs → MR ρ m nx h → (∀ vs as, VRs ρ vs as → FitAt ρ m nx h (k vs) (f as)) → FitAt ρ m nx h (res2 S rs k) (A.bind (resAll ts l) f)
  | [], rs, k, f, m, nx, h, hr, hm, H => by
    cases hr
    simp only [resAll]
    rw [A.bind_ret']
    exact H [] [] .nil
  | .tmp i :: l, rs, k, f, m, nx, h, hr, hm, H => by
    unfold resOf at hr
    cases hp : pth ks i with
    | none => rw [hp] at hr; cases hr
    | some p =>
      rw [hp] at hr
      simp only at hr
      cases hl : resOf ks l with
      | none => rw [hl] at hr; cases hr
      | some r =>
        rw [hl] at hr; cases hr
        simp only [resAll, resA]
        rw [A.bind_assoc, A.bind_ret', A.bind_assoc]
        have he : res2 S (.tmp p :: r) k = res2 S r fun vs => k (orBad (Tp.get p S) :: vs) := by
          funext m nx lg tc wr κ
          show getK p S (fun o => orK o _) = _
          rw [getK_eq, orK_eq]
        rw [he]
        clear he
        refine res2_fit kr l hl hm fun vs as hv => ?_
        rw [A.bind_ret']
        exact H _ _ (.cons _ _ _ _ (kr.kept i p hp) hv)
  | .cell i n :: l, rs, k, f, m, nx, h, hr, hm, H => by
    unfold resOf at hr
    cases hp : pth ks i with
    | none => rw [hp] at hr; cases hr
    | some p =>
      rw [hp] at hr
      simp only at hr
      cases hl : resOf ks l with
      | none => rw [hl] at hr; cases hr
      | some r =>
        rw [hl] at hr; cases hr
        have hv := kr.kept i p hp
        simp only [resAll, resA]
        rw [A.bind_assoc]
        cases n with
        | none =>
          have he : res2 S (.cell p (none) :: r) k = (match orBad (Tp.get p S) with
            | .ptr b o => withB b fun q => match q with
              | .mk _ _ _ _ _ cs => match cs.get o with
                | some v => res2 S r fun vs => k (v :: vs)
                | none => fail2
              | _ => fail2
            | _ => fail2) := by
            funext m nx lg tc wr κ
            show getK p S (fun o => orK o _) = _
            rw [getK_eq, orK_eq]
            cases orBad (Tp.get p S) <;> rfl
          rw [he]
          clear he
          generalize orBad (Tp.get p S) = v at hv
          generalize ts.getD i (.tup []) = w at hv
          cases hv <;> first | exact FitAt.fail | skip
          rename_i b o
          simp only
          rw [A.bind_assoc]
          refine FitAt.rd hm fun q kk hq hb hk hr => ?_
          cases q with
          | fr r => exact FitAt.fail
          | mp ck es => exact FitAt.fail
          | mk ty sz own grow n' cs =>
            simp only
            cases hg : cs.get o with
            | none => exact FitAt.fail
            | some v =>
              obtain ⟨a, h1, h2⟩ := hr.cel.1.get hg
              have e : partA kk.cells o none = some a := h1
              rw [e, A.bind_opt, A.bind_assoc]
              refine res2_fit kr l hl hm fun vs as hv => ?_
              rw [A.bind_ret']
              exact H _ _ (.cons _ _ _ _ h2 hv)
        | some n =>
          have he : res2 S (.cell p (some n) :: r) k = (match orBad (Tp.get p S) with
            | .ptr b o => withB b fun q => match q with
              | .mk _ _ _ _ l cs => match part2 l cs o n with
                | some v => res2 S r fun vs => k (v :: vs)
                | none => fail2
              | _ => fail2
            | _ => fail2) := by
            funext m nx lg tc wr κ
            show getK p S (fun o => orK o _) = _
            rw [getK_eq, orK_eq]
            cases orBad (Tp.get p S) <;> rfl
          rw [he]
          clear he
          generalize orBad (Tp.get p S) = v at hv
          generalize ts.getD i (.tup []) = w at hv
          cases hv <;> first | exact FitAt.fail | skip
          rename_i b o
          simp only
          rw [A.bind_assoc]
          refine FitAt.rd hm fun q kk hq hb hk hr => ?_
          cases q with
          | fr r => exact FitAt.fail
          | mp ck es => exact FitAt.fail
          | mk ty sz own grow n' cs =>
            simp only
            cases hg : part2 n' cs o n with
            | none => exact FitAt.fail
            | some v =>
              obtain ⟨a, h1, h2⟩ := part2_ok hr.cel.1 hg
              have e : partA kk.cells o (some n) = some a := h1
              rw [e, A.bind_opt, A.bind_assoc]
              refine res2_fit kr l hl hm fun vs as hv => ?_
              rw [A.bind_ret']
              exact H _ _ (.cons _ _ _ _ h2 hv)
theorem oneOf_ok {vs : List V} {as : List AV} (h : VRs ρ vs as) : VR ρ (oneOf2 vs) (oneOf as) := by
  cases h with
  | nil => exact .tup _ _ .nil
  | cons v a vs as hv hvs =>
    cases hvs with
    | nil => exact hv
    | cons w b vs as hw hws => exact .tup _ _ (.cons _ _ _ _ hv (.cons _ _ _ _ hw hws))
theorem callN_eq {T : FuncId → Option AF} {f : FuncId} {F : AF} (hF : T f = some F) (N : Nat) (args : List AV) : callN T N f args = A.bind (xC T N F.body (args ++ List.replicate (F.nt - args.length) (.tup []))) fun r => match r.1 with
    | .exit _ => A.fail
    | _ => A.bind (resAll r.2 F.res) fun vs => A.ret (oneOf vs) := by
  unfold callN
  rw [hF]
  rfl
theorem callN_xF (T : FuncId → Option AF) (N : Nat) (f : FuncId) (args : List AV) : callN T N f args = xF T N f args := by
  unfold callN xF
  rfl
/-- A TABLE: what it answers is what the engine answers. -/
theorem run3_fit {T : FuncId → Option AF} {tab : Tp F3} (hT : TabOk ρ T tab) : ∀ n, CallFit ρ (run3 tab n) (callN T)
  | 0 => fun f vs as hv m nx h hm => FitE.fail
  | n + 1 => fun f vs as hv m nx h hm => by
    have ih := run3_fit hT n
    have e0 : run3 tab (n + 1) f vs = callG (run3 tab n) n vs (Tp.get f tab) := by
      funext m nx lg tc wr κ
      exact getK_eq (fun o => callG (run3 tab n) n vs o m nx lg tc wr κ) f tab
    rw [e0]
    cases hG : Tp.get f tab with
    | none => exact FitE.fail
    | some G =>
      obtain ⟨F, ks, on, hF, hres, hps, hbody, horc⟩ := hT f G hG
      show FitE ρ m nx h (orcF vs G.orc (fun m nx lg tc wr κ => layK G.ps vs .lf fun S => G.body (run3 tab n) n [] S m nx lg tc wr (retK G.res lg κ))) _
      have main : FitE ρ m nx h (fun m nx lg tc wr κ => layK G.ps vs .lf fun S => G.body (run3 tab n) n [] S m nx lg tc wr (retK G.res lg κ)) (fun N => callN T N f.nat as) := by
        intro lg tc wr κ e
        dsimp only at e
        rw [layK_eq, hps, hbody] at e
        have fit : KFit ρ ks F.nt ⟨[], 0⟩ (bodyOf ks on F (run3 tab n) n) (fun N ts => xC T N F.body ts) := (trC_fit ih F.body ⟨[], 0⟩ (k := fun _ => cEnd) (kx := fun _ ts => A.ret (.nor, ts)) cEnd_fit).eq fun N ts => by
          rw [show (thenK fun ts => A.ret (.nor, ts)) = fun a => A.ret a from funext thenK_ret, A.bind_retR]
        obtain ⟨e1, S1, m1, nx1, tc1, wr1, hκ, s, h1, h2, h3, h4, h5, h6, h7⟩ := fit [] _ _ m nx h (Rel.start (ks := ks) (nt := F.nt) hv) rfl hm lg tc wr _ e
        · have hne : ∀ i, e1 ≠ .exit i := fun i hi => by subst hi; cases hκ
          have e' : res2 S1 G.res (fun vs => done (oneOf2 vs)) m1 nx1 lg tc1 wr1 κ = true := by
            cases e1 with
            | nor => exact hκ
            | ret => exact hκ
            | exit i => exact absurd rfl (hne i)
          obtain ⟨v, m', nx', tc', wr', hκ', s2, q1, q2, q3, q4, q5, q6⟩ := res2_fit h3 F.res hres h4 (k := fun vs => done (oneOf2 vs)) (f := fun vs => A.ret (oneOf vs)) (fun vs as hv => FitAt.done h4 (oneOf_ok hv)) lg tc1 wr1 κ e'
          have hcall : (fun N => callN T N f.nat as h nx.nat lg) = fun N => A.bind (xC T N F.body (as ++ List.replicate (F.nt - as.length) (.tup []))) (fun r => match r.1 with
            | .exit _ => A.fail
            | _ => A.bind (resAll r.2 F.res) fun vs => A.ret (oneOf vs)) h nx.nat lg := funext fun N => by rw [callN_eq hF]
          rw [hcall]
          refine ⟨v, m', nx', tc', wr', hκ', _, Ev.bind (f := fun _ (r : Ex × List AV) => match r.1 with | .exit _ => A.fail | _ => A.bind (resAll r.2 F.res) fun vs => A.ret (oneOf vs)) h1 (s := s2) ⟨0, fun N _ => ?_⟩, q2, q3, q4, by rw [q5, h6, Nat.or_assoc], by rw [q6, h7, Nat.or_assoc]⟩
          show (match s.v.1 with | .exit _ => A.fail | _ => A.bind (resAll s.v.2 F.res) fun vs => A.ret (oneOf vs)) s.h s.nx lg = some s2
          rw [h5]
          rw [← h2] at hne
          cases hx : s.v.1 with
          | nor => exact q1
          | ret => exact q1
          | exit i => exact absurd hx (hne i)
      revert horc
      generalize G.orc = orc
      intro horc
      induction orc with
      | nil => exact main
      | cons p l ihl =>
        have ihl := ihl fun q hq => horc q (List.mem_cons_of_mem _ hq)
        cases p with
        | v ys r =>
          show FitE ρ m nx h (Bool.rec (motive := fun _ => K2) (orcF vs l _) (done r) (sameVs ys vs)) _
          cases hs : sameVs ys vs with
          | false => exact ihl
          | true =>
            obtain ⟨a, ha, N0, hN⟩ := show OrcOk ρ T f.nat (ys, r) from horc (.v ys r) (by simp)
            have has := sameVs_ok ys hs hv
            intro lg tc wr κ e
            refine ⟨r, m, nx, tc, wr, e, ⟨a, h, nx.nat, 0, 0⟩, ⟨N0, fun N hle => ?_⟩, ha, hm, rfl, by simp, by simp⟩
            show callN T N f.nat as h nx.nat lg = _
            rw [callN_xF, has]
            exact hN N hle h nx.nat lg
        | st ys l1 nx0 lg0 r l2 nx2 t0 w0 =>
          intro lg tc wr κ e
          change Bool.rec (motive := fun _ => Bool) (orcF vs l _ m nx lg tc wr κ) (κ r (mkM l2) nx2 (Nat.lor tc t0) (Nat.lor wr w0)) (stHit ys vs l1 nx0 lg0 m nx lg) = true at e
          cases hh : stHit ys vs l1 nx0 lg0 m nx lg with
          | false => rw [hh] at e; exact ihl lg tc wr κ e
          | true =>
            rw [hh] at e
            unfold stHit at hh
            cases g1 : eqPa nx0 nx <;> rw [g1] at hh <;> simp only at hh <;> first | (cases hh; done) | skip
            cases g2 : Nat.beq lg0 lg <;> rw [g2] at hh <;> simp only at hh <;> first | (cases hh; done) | skip
            cases g3 : eqVs ys vs <;> rw [g3] at hh <;> simp only at hh <;> first | (cases hh; done) | skip
            have e1 := eqPa_eq g1
            have e2 := Nat.eq_of_beq_eq_true g2
            have e3 := eqVs_eq ys g3
            subst e1 e2 e3
            have hst : StOk ρ T f.nat ys l1 nx0 lg0 r l2 nx2 t0 w0 := horc (.st ys l1 nx0 lg0 r l2 nx2 t0 w0) (by simp)
            obtain ⟨s, k1, k2, k3, k4, k5, k6⟩ := hst as h hv ⟨fun p q hq => hm.at_ p q (mkM_sub hh hq)⟩
            refine ⟨r, mkM l2, nx2, _, _, e, s, ?_, k2, k3, k4, by rw [k5]; rfl, by rw [k6]; rfl⟩
            have : (fun N => callN T N f.nat as h nx0.nat lg0) = fun N => xF T N f.nat as h nx0.nat lg0 := funext fun N => by rw [callN_xF]
            rw [show (fun N => (fun N => callN T N f.nat as) N h nx0.nat lg0) = fun N => callN T N f.nat as h nx0.nat lg0 from rfl, this]
            exact k1
noncomputable def stB (l' : List (Pa × B2)) (r : V) (nx' : Pa) (t w : Nat) : Kc := fun v m nx tc wr => eqPa nx' nx && Nat.beq tc t && Nat.beq wr w && eqV r v && allIn m l'
/-- A STAGE: a run from these blocks on. -/
theorem stage {T : FuncId → Option AF} {tab : Tp F3} (hT : TabOk ρ T tab) {n : Nat} {f : Pa} {xs : List V} {l : List (Pa × B2)} {nx : Pa} {lg : Nat} {r : V} {l' : List (Pa × B2)} {nx' : Pa} {t w : Nat} (e : run3 tab n f xs (mkM l) nx lg 0 0 (stB l' r nx' t w) = true) : StOk ρ T f.nat xs l nx lg r l' nx' t w := by
  intro as h hv hm
  obtain ⟨v, m, nx2, tc, wr, hκ, s, ⟨N, hN⟩, k2, k3, k4, k5, k6⟩ := run3_fit hT n f xs as hv (mkM l) nx h hm lg 0 0 _ e
  simp only [stB, Bool.and_eq_true] at hκ
  obtain ⟨⟨⟨⟨g1, g2⟩, g3⟩, g4⟩, g5⟩ := hκ
  have e1 := eqPa_eq g1
  have e2 := Nat.eq_of_beq_eq_true g2
  have e3 := Nat.eq_of_beq_eq_true g3
  have e4 := eqV_eq r g4
  subst e1 e4
  refine ⟨s, ⟨N, fun M hM => ?_⟩, k2, ⟨fun p q hq => k3.at_ p q (mkM_sub g5 hq)⟩, k4, ?_, ?_⟩
  · show xF T M f.nat as h nx.nat lg = some s
    rw [← callN_xF]; exact hN M hM
  · rw [e2] at k5; simpa using k5.symm
  · rw [e3] at k6; simpa using k6.symm
end
end Go.Proofs.YtamfoplfbidolaaGreatDoorX
/- The second executor: the table of a program, and what a run of it tells. -/
namespace Go.Proofs.YtamfoplfbidolaaGreatDoorX
open Go Go.Proofs.YtamfoplfbidolaaGreatDoorE Go.Proofs.YtamfoplfbidolaaGreatDoorB
set_option linter.unusedVariables false
set_option linter.unusedSimpArgs false

/-- A function of the program, as the second executor has it. -/
noncomputable def trP (p : Program) (ks on : List Nat) (f : FuncId) : Option F3 := match compF p f with
  | none => none
  | some F => match resOf ks F.res with
    | none => none
    | some rs => some ⟨[], psN ks 12 0, rs, bodyOf ks on F⟩
def QF (ρ : Nat → Int) (p : Program) (f : FuncId) (G : F3) : Prop := ∃ F ks on, compF p f = some F ∧ resOf ks F.res = some G.res ∧ G.ps = psN ks 12 0 ∧ G.body = bodyOf ks on F ∧ ∀ q ∈ G.orc, OrcK ρ (compF p) f q
theorem qf_or {ρ : Nat → Int} {p : Program} {ks on : List Nat} {f : FuncId} {g : F3} (h : trP p ks on f = some g) {w : List Orc} (hw : ∀ q ∈ w, OrcK ρ (compF p) f q) : QF ρ p f ⟨w, g.ps, g.res, g.body⟩ := by
  unfold trP at h
  cases hF : compF p f with
  | none => rw [hF] at h; cases h
  | some F =>
    rw [hF] at h
    simp only at h
    cases hr : resOf ks F.res with
    | none => rw [hr] at h; cases h
    | some rs =>
      rw [hr] at h
      cases h
      exact ⟨F, ks, on, hF, hr, rfl, rfl, hw⟩
theorem qf_of {ρ : Nat → Int} {p : Program} {ks on : List Nat} {f : FuncId} {g : F3} (h : trP p ks on f = some g) : QF ρ p f g := by
  have ho : g.orc = [] := by
    unfold trP at h
    cases hF : compF p f with
    | none => rw [hF] at h; cases h
    | some F =>
      rw [hF] at h
      simp only at h
      cases hr : resOf ks F.res with
      | none => rw [hr] at h; cases h
      | some rs => rw [hr] at h; cases h; rfl
  have := qf_or (ρ := ρ) h (w := []) (fun q hq => by cases hq)
  obtain ⟨o, ps, rs, b⟩ := g
  simp only at ho
  subst ho
  exact this
/-- A tree of functions, each at its number. -/
inductive AllT (Q : Nat → F3 → Prop) : (Nat → Nat) → Tp F3 → Prop
  | lf {φ : Nat → Nat} : AllT Q φ .lf
  | no {φ : Nat → Nat} {l r : Tp F3} (hl : AllT Q (fun n => φ (Nat.succ (Nat.mul 2 n))) l) (hr : AllT Q (fun n => φ (Nat.succ (Nat.succ (Nat.mul 2 n)))) r) : AllT Q φ (.nd l none r)
  | nd {φ : Nat → Nat} {l r : Tp F3} {g : F3} (f : Nat) (h : Q f g) (e : Nat.beq (φ 0) f = true) (hl : AllT Q (fun n => φ (Nat.succ (Nat.mul 2 n))) l) (hr : AllT Q (fun n => φ (Nat.succ (Nat.succ (Nat.mul 2 n)))) r) : AllT Q φ (.nd l (some g) r)
theorem AllT.get {Q : Nat → F3 → Prop} : ∀ (p : Pa) {φ : Nat → Nat} {t : Tp F3} {g : F3}, AllT Q φ t → Tp.get p t = some g → Q (φ p.nat) g
  | .e, φ, _, g, .lf, e => by cases e
  | .e, φ, _, g, .no _ _, e => by cases e
  | .e, φ, _, g, .nd f h e' _ _, e => by
    cases e
    rw [← Nat.eq_of_beq_eq_true e'] at h
    exact h
  | .o p, φ, _, g, .lf, e => by rw [Tp.get_lf] at e; cases e
  | .o p, φ, _, g, .no hl _, e => AllT.get p hl e
  | .o p, φ, _, g, .nd _ _ _ hl _, e => AllT.get p hl e
  | .i p, φ, _, g, .lf, e => by rw [Tp.get_lf] at e; cases e
  | .i p, φ, _, g, .no _ hr, e => AllT.get p hr e
  | .i p, φ, _, g, .nd _ _ _ _ hr, e => AllT.get p hr e
theorem AllT.ok {ρ : Nat → Int} {p : Program} {t : Tp F3} (h : AllT (QF ρ p) (fun n => n) t) : TabOk ρ (compF p) t := fun f G e => AllT.get f h e
noncomputable def okR : Kc := fun v _ _ _ _ => match v with
  | .b true => true
  | _ => false
/-- A RUN that answers 'true': the engine's does. -/
theorem yes_at {ρ : Nat → Int} {p : Program} {t : Tp F3} (ht : TabOk ρ (compF p) t) {n : Nat} {f : Pa} {vs : List V} {as : List AV} {m : Tm} {nx : Pa} {h : Mem} (hm : MR ρ m nx h) (hv : VRs ρ vs as) (e : run3 t n f vs m nx 0 0 0 okR = true) : Yes (compF p) f.nat as h nx.nat := by
  obtain ⟨v, m', nx', tc, wr, hκ, s, ⟨N, hN⟩, h2, _⟩ := run3_fit ht n f vs as hv m nx h hm 0 0 0 _ e
  have hb : v = .b true := by
    cases v <;> first | (cases hκ; done) | skip
    rename_i b
    cases b
    · cases hκ
    · rfl
  subst hb
  obtain ⟨a, h', n', tc', wr'⟩ := s
  cases h2
  refine ⟨N, h', n', tc', wr', ?_⟩
  have := hN N (Nat.le_refl _)
  rw [← callN_xF]
  exact this
theorem MR.zero {ρ : Nat → Int} : MR ρ .lf .e Mem.empty := ⟨fun p q h => by rw [Tp.get_lf] at h; cases h⟩
theorem yes_run {ρ : Nat → Int} {p : Program} {t : Tp F3} (ht : TabOk ρ (compF p) t) {n : Nat} {f : Pa} {vs : List V} {as : List AV} (hv : VRs ρ vs as) (e : run3 t n f vs .lf .e 0 0 0 okR = true) : Yes (compF p) f.nat as Mem.empty 0 := yes_at ht MR.zero hv e
theorem wrapI {n : Int} (h1 : -9223372036854775808 ≤ n) (h2 : n ≤ 9223372036854775807) : IntKind.i64.wrap n = n := by rw [IntKind.wrap_i64]; omega
theorem sym_vr {ρ : Nat → Int} {g : Gm} {c n : Int} {as : List Int} (hg : Inn ρ g) (e : c + dotL ρ as 0 = n) (h1 : -9223372036854775808 ≤ n) (h2 : n ≤ 9223372036854775807) : VR ρ (.sym g .i64 c as) (.int .i64 n) := by
  have := VR.sym (ρ := ρ) g .i64 c as hg
  rw [e, wrapI h1 h2] at this
  exact this
theorem sym_num {ρ : Nat → Int} {g : Gm} {c n : Int} {as : List Int} (e : c + dotL ρ as 0 = n) (h1 : -9223372036854775808 ≤ n) (h2 : n ≤ 9223372036854775807) : numOf ρ (.sym g .i64 c as) = .int .i64 n := by
  show AV.int .i64 (IntKind.i64.wrap (c + dotL ρ as 0)) = _
  rw [e, wrapI h1 h2]
theorem orc_of {ρ : Nat → Int} {T : FuncId → Option AF} {f : FuncId} {vs : List V} {bs : List AV} {v : V} {a : AV} (hm : vs.map (numOf ρ) = bs) (hv : VR ρ v a) (h : ∀ (n : Nat) (h : Mem) (nx lg : Nat), xF T (n + 20) f bs h nx lg = some ⟨a, h, nx, 0, 0⟩) : OrcOk ρ T f (vs, v) := by
  refine ⟨a, hv, 20, fun N hN m nx lg => ?_⟩
  obtain ⟨n, rfl⟩ : ∃ n, N = n + 20 := ⟨N - 20, by omega⟩
  show xF T (n + 20) f (vs.map (numOf ρ)) m nx lg = _
  rw [hm]
  exact h n m nx lg
theorem wf_i64 {n : Int} (h : (Lit.int .i64 n).wf = true) : -9223372036854775808 ≤ n ∧ n ≤ 9223372036854775807 := by
  have h0 : IntKind.i64.min = -9223372036854775808 := rfl
  simp [Lit.wf] at h
  rw [h0] at h
  exact h
theorem table_self (p : Program) : TableOk p (compF p) := fun f F h => h
end Go.Proofs.YtamfoplfbidolaaGreatDoorX

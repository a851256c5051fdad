/- The engine, part 18: a region whose order is open comes to what it comes to in the order of the text. -/
import Derived.Test.YtamfoplfbidolaaGreatDoorE17
namespace Go.Proofs.YtamfoplfbidolaaGreatDoorE
open Go Go.RowKit
set_option linter.unusedVariables false
set_option linter.unusedSimpArgs false

theorem range_bits {n nx : Nat} (h : n ≤ nx) (b : Nat) : (2 ^ nx - 2 ^ n).testBit b = decide (n ≤ b ∧ b < nx) := by
  have e : 2 ^ nx - 2 ^ n = (2 ^ (nx - n) - 1) * 2 ^ n := by
    rw [Nat.sub_mul, ← Nat.pow_add, Nat.one_mul]
    congr 2; omega
  rw [e, Nat.testBit_mul_two_pow, Nat.testBit_two_pow_sub_one]
  by_cases h1 : n ≤ b
  · by_cases h2 : b < nx
    · simp [h1, h2]; omega
    · simp [h1, h2]; omega
  · simp [h1]

theorem and_zero_bit {x y b : Nat} (h : x &&& y = 0) (h1 : x.testBit b = true) : y.testBit b = false := by
  have := Nat.testBit_and x y b
  rw [h, h1] at this
  simpa using this.symm

theorem countP_lt {p p' : Nat → Bool} : ∀ {l : List Nat} {i : Nat}, i ∈ l → p i = true → p' i = false → (∀ j, p' j = true → p j = true) → l.countP p' < l.countP p
  | [], i, h, _, _, _ => by simp at h
  | x :: l, i, h, h1, h2, h3 => by
    have le : ∀ l : List Nat, l.countP p' ≤ l.countP p := fun l => List.countP_mono_left fun j _ hj => h3 j hj
    rw [List.countP_cons, List.countP_cons]
    rcases List.mem_cons.1 h with rfl | h
    · rw [h1, h2]; have := le l; simp; omega
    · have ih := countP_lt h h1 h2 h3
      by_cases hx : p' x = true
      · rw [hx, h3 x hx]; simp; omega
      · have hx' : p' x = false := by simpa using hx
        rw [hx']
        by_cases hx2 : p x = true
        · rw [hx2]; simp; omega
        · have hx3 : p x = false := by simpa using hx2
          rw [hx3]; simp; exact ih

theorem putT_length (ts : List AV) (d : Option Nat) (v : AV) : (putT ts d v).length = ts.length := by
  cases d <;> simp [putT]
theorem putT_at {ts ts2 : List AV} (hl : ts2.length = ts.length) (t : Nat) (v : AV) : (putT ts2 (some t) v).getD t (.tup []) = (putT ts (some t) v).getD t (.tup []) := by
  simp only [putT, List.getD_eq_getElem?_getD, List.getElem?_set]
  simp only [if_true, hl]
theorem putT_ne (ts : List AV) {d : Option Nat} (v : AV) {t : Nat} (h : d ≠ some t) : (putT ts d v).getD t (.tup []) = ts.getD t (.tup []) := by
  cases d with
  | none => rfl
  | some d =>
    have hne : d ≠ t := fun e => h (by rw [e])
    simp only [putT, List.getD_eq_getElem?_getD, List.getElem?_set, if_neg hne]

theorem compRs_at {P : Program} {ops : Array Oper} : ∀ {os : List Oper} {rs : List AR}, compRs P ops os = some rs → rs.length = os.length ∧ ∀ (i : Nat) (o : Oper), os[i]? = some o → ∃ r, rs[i]? = some r ∧ compAR P ops o = some r
  | [], rs, h => by cases h; exact ⟨rfl, fun i o ho => by simp at ho⟩
  | o :: os, rs, h => by
    simp only [compRs] at h
    split at h <;> first | (cases h; done) | skip
    rename_i r rs' h1 h2
    cases h
    obtain ⟨a, b⟩ := compRs_at h2
    refine ⟨by simp [a], fun i o' ho => ?_⟩
    cases i with
    | zero => simp at ho; subst ho; exact ⟨r, by simp, h1⟩
    | succ i => simp at ho; simpa using b i o' ho

section
variable {P : Program} {call : FuncId → List AV → A AV}

/-- All that is known of a region before it is run. -/
structure Reg (P : Program) (call : FuncId → List AV → A AV) (ops : Array Oper) (rs : List AR) (bef : List Nat) (ts : List AV) (h : Mem) (n : Nat) (q : Rs (List AV)) (l : List (Nat × Nat)) : Prop where
  hrs : compRs P ops ops.toList = some rs
  edges : edgesOk bef 0 ops.toList = true
  tmps : tmpsOk [] bef rs = true
  log : regLog call rs ts h n = some (q, l)
  apart : allApart [] bef l = true

variable {ops : Array Oper} {rs : List AR} {bef : List Nat} {ts : List AV} {h : Mem} {n : Nat} {q : Rs (List AV)} {l : List (Nat × Nat)}

def Reg.S (R : Reg P call ops rs bef ts h n q l) (i : Nat) : St := at_ (trail call rs ts h n) i
def Reg.WB (R : Reg P call ops rs bef ts h n q l) (i b : Nat) : Prop := (R.S i).wr.testBit b = true ∨ ((R.S i).n ≤ b ∧ b < (R.S (i + 1)).n)
def Reg.RB (R : Reg P call ops rs bef ts h n q l) (i b : Nat) : Prop := (R.S i).tc.testBit b = true
def Reg.WT (R : Reg P call ops rs bef ts h n q l) (i t : Nat) : Prop := ∃ r, rs[i]? = some r ∧ r.dst = some t
def Reg.RT (R : Reg P call ops rs bef ts h n q l) (i t : Nat) : Prop := ∃ r, rs[i]? = some r ∧ t ∈ r.rd
def Bef (bef : List Nat) (j i : Nat) : Prop := (bef.getD j 0).testBit i = true

theorem Reg.size (R : Reg P call ops rs bef ts h n q l) : rs.length = ops.size := by
  have := (compRs_at R.hrs).1; simpa using this
theorem Reg.oper (R : Reg P call ops rs bef ts h n q l) {i : Nat} {o : Oper} (ho : ops[i]? = some o) : ∃ r, rs[i]? = some r ∧ compAR P ops o = some r :=
  (compRs_at R.hrs).2 i o (by simpa using ho)

/-- One operation, ahead of it and behind it. -/
theorem Reg.one (R : Reg P call ops rs bef ts h n q l) (hft : ∀ f xs, Foot (call f xs)) {i : Nat} {r : AR} (hr : rs[i]? = some r) :
    ∃ v, stepR call (R.S i).ts r (R.S i).h (R.S i).n (R.S i).n = some ⟨v, (R.S (i + 1)).h, (R.S (i + 1)).n, (R.S i).tc, (R.S i).wr⟩ ∧ (R.S (i + 1)).ts = putT (R.S i).ts r.dst v ∧
      FootR (stepR call (R.S i).ts r) (R.S i).h (R.S i).n (R.S i).n ⟨v, (R.S (i + 1)).h, (R.S (i + 1)).n, (R.S i).tc, (R.S i).wr⟩ ∧
      l[i]? = some ((R.S i).tc ||| (2 ^ (R.S (i + 1)).n - 2 ^ (R.S i).n), (R.S i).wr ||| (2 ^ (R.S (i + 1)).n - 2 ^ (R.S i).n)) := by
  obtain ⟨s, e1, e2, e3, e4, e5, e6, e7⟩ := (trail_at rs ts h n q l R.log).2.2.2.2.2 i r hr
  have F := Foot.step hft _ r _ _ _ s (Nat.le_refl _) e1
  obtain ⟨v, hh, nn, tc, wr⟩ := s
  simp only at e2 e3 e4 e5 e6 e7
  have h1 : (R.S (i + 1)).h = hh := e5
  have h2 : (R.S (i + 1)).n = nn := e6
  have h3 : (R.S i).tc = tc := e2.symm
  have h4 : (R.S i).wr = wr := e3.symm
  rw [h1, h2, h3, h4]
  exact ⟨v, e1, e4, F, e7⟩

theorem Reg.exchB (R : Reg P call ops rs bef ts h n q l) (hft : ∀ f xs, Foot (call f xs)) : Exch rs.length (fun i b => (R.S i).h.blk b) R.WB R.RB (Bef bef) := by
  have get : ∀ i, i < rs.length → ∃ r, rs[i]? = some r := fun i hi => ⟨rs[i], List.getElem?_eq_getElem hi⟩
  refine ⟨fun i hi b hb => ?_, fun i j hij hj hbef b => ?_⟩
  · obtain ⟨r, hr⟩ := get i hi
    obtain ⟨v, e1, e2, F, e4⟩ := R.one hft hr
    unfold Reg.WB at hb
    simp only [not_or, not_and, Nat.not_lt] at hb
    rcases Nat.lt_or_ge b (R.S i).n with h1 | h1
    · exact F.frame b h1 (by simpa using hb.1)
    · exact F.above b (hb.2 h1)
  · obtain ⟨r, hr⟩ := get i (by omega)
    obtain ⟨r', hr'⟩ := get j hj
    obtain ⟨v, e1, e2, F, e4⟩ := R.one hft hr
    obtain ⟨v', e1', e2', F', e4'⟩ := R.one hft hr'
    have hb0 : (bef.getD j 0).testBit i = false := by
      unfold Bef at hbef; simpa using hbef
    obtain ⟨a1, a2⟩ := allApart_at R.apart j _ e4' i _ (by simpa using e4) (by simpa using hij) hb0
    have wb : ∀ {i : Nat}, (R.S i).n ≤ (R.S (i + 1)).n → R.WB i b → ((R.S i).wr ||| (2 ^ (R.S (i + 1)).n - 2 ^ (R.S i).n)).testBit b = true := fun hle hw => by
      rw [Nat.testBit_or, Bool.or_eq_true]
      rcases hw with hw | hw
      · exact .inl hw
      · right; rw [range_bits hle]; simpa using hw
    have tb : ∀ {i : Nat}, (R.S i).n ≤ (R.S (i + 1)).n → (∀ b, (R.S i).wr.testBit b = true → (R.S i).tc.testBit b = true) → R.RB i b ∨ R.WB i b → ((R.S i).tc ||| (2 ^ (R.S (i + 1)).n - 2 ^ (R.S i).n)).testBit b = true := fun hle hs hw => by
      rw [Nat.testBit_or, Bool.or_eq_true]
      rcases hw with hw | hw | hw
      · exact .inl hw
      · exact .inl (hs b hw)
      · right; rw [range_bits hle]; simpa using hw
    refine ⟨fun hw hx => ?_, fun hw hx => ?_⟩
    · have x1 := wb F.le hw
      have x2 := tb F'.le F'.sub hx
      rw [and_zero_bit a1 x1] at x2; cases x2
    · have x1 := wb F'.le hw
      have x2 := tb F.le F.sub hx
      rw [and_zero_bit (by rw [Nat.and_comm]; exact a2) x1] at x2; cases x2

theorem Reg.exchT (R : Reg P call ops rs bef ts h n q l) (hft : ∀ f xs, Foot (call f xs)) : Exch rs.length (fun i t => (R.S i).ts.getD t (.tup [])) R.WT R.RT (Bef bef) := by
  have get : ∀ i, i < rs.length → ∃ r, rs[i]? = some r := fun i hi => ⟨rs[i], List.getElem?_eq_getElem hi⟩
  refine ⟨fun i hi t ht => ?_, fun i j hij hj hbef t => ?_⟩
  · obtain ⟨r, hr⟩ := get i hi
    obtain ⟨v, e1, e2, F, e4⟩ := R.one hft hr
    simp only [e2]
    exact putT_ne _ v fun e => ht ⟨r, hr, e⟩
  · obtain ⟨r, hr⟩ := get i (by omega)
    obtain ⟨r', hr'⟩ := get j hj
    have hb0 : (bef.getD j 0).testBit i = false := by
      unfold Bef at hbef; simpa using hbef
    obtain ⟨a1, a2⟩ := tmpsOk_at R.tmps j _ hr' i _ (by simpa using hr) (by simpa using hij) hb0
    have key : ∀ {x y : AR} {t : Nat}, x.clash y = false → x.dst = some t → ¬ (t ∈ y.rd ∨ y.dst = some t) := fun {x y t} hc hd hx => by
      unfold AR.clash at hc
      rw [hd] at hc
      simp only [Bool.or_eq_false_iff] at hc
      rcases hx with hx | hx
      · have := hc.1
        rw [List.contains_iff_mem.2 hx] at this
        cases this
      · have := hc.2
        rw [hx] at this
        simp at this
    refine ⟨fun ⟨x, hx, hd⟩ hw => ?_, fun ⟨x, hx, hd⟩ hw => ?_⟩
    · rw [hr] at hx; cases hx
      refine key a1 hd ?_
      rcases hw with ⟨y, hy, h1⟩ | ⟨y, hy, h1⟩
      · rw [hr'] at hy; cases hy; exact .inl h1
      · rw [hr'] at hy; cases hy; exact .inr h1
    · rw [hr'] at hx; cases hx
      refine key a2 hd ?_
      rcases hw with ⟨y, hy, h1⟩ | ⟨y, hy, h1⟩
      · rw [hr] at hy; cases hy; exact .inl h1
      · rw [hr] at hy; cases hy; exact .inr h1

theorem Reg.mono (R : Reg P call ops rs bef ts h n q l) (hft : ∀ f xs, Foot (call f xs)) : ∀ {j i : Nat}, i ≤ j → j ≤ rs.length → (R.S i).n ≤ (R.S j).n
  | 0, i, h1, _ => by have : i = 0 := by omega
                      subst this; exact Nat.le_refl _
  | j + 1, i, h1, h2 => by
    by_cases e : i = j + 1
    · subst e; exact Nat.le_refl _
    · obtain ⟨v, e1, e2, F, e4⟩ := R.one hft (List.getElem?_eq_getElem (show j < rs.length by omega))
      exact Nat.le_trans (R.mono hft (by omega) (by omega)) F.le

theorem Reg.len (R : Reg P call ops rs bef ts h n q l) (hft : ∀ f xs, Foot (call f xs)) : ∀ {j : Nat}, j ≤ rs.length → (R.S j).ts.length = ts.length
  | 0, _ => by unfold Reg.S; rw [(trail_at rs ts h n q l R.log).1]
  | j + 1, h2 => by
    obtain ⟨v, e1, e2, F, e4⟩ := R.one hft (List.getElem?_eq_getElem (show j < rs.length by omega))
    rw [e2, putT_length, R.len hft (by omega)]

/-- Midway: a set of operations has been done. -/
structure Mid (R : Reg P call ops rs bef ts h n q l) (B : Nat) (m : Mp) (w0 : World) (d0 : List Deferred) (listed : Array Bool) (a : Act) (w : World) (ts' : List AV) (h' : Mem) (m' : Mp) : Prop where
  size : listed.size = rs.length
  tv : VRs m' ts' a.tmps.toList
  tl : ts'.length = ts.length
  hr : HR B m' h' w
  cb : Cons rs.length (fun i b => (R.S i).h.blk b) R.WB (fun i => listed[i]? = some true) (fun b => h'.blk b)
  ct : Cons rs.length (fun i t => (R.S i).ts.getD t (.tup [])) R.WT (fun i => listed[i]? = some true) (fun t => ts'.getD t (.tup []))
  closed : ∀ j, listed[j]? = some true → ∀ i, Bef bef j i → listed[i]? = some true
  below : Below B w0 w
  defers : a.defers = d0
  le : m.le m'
  dom : ∀ b, m' b ≠ none → m b ≠ none ∨ ∃ i, i < rs.length ∧ listed[i]? = some true ∧ (R.S i).n ≤ b ∧ b < (R.S (i + 1)).n

theorem Mid.done {R : Reg P call ops rs bef ts h n q l} {B : Nat} {m : Mp} {w0 : World} {d0 : List Deferred} {listed : Array Bool} {a : Act} {w : World} {ts' : List AV} {h' : Mem} {m' : Mp} (hft : ∀ f xs, Foot (call f xs))
    (M : Mid R B m w0 d0 listed a w ts' h' m') (hall : ∀ i, i < rs.length → listed[i]? = some true) :
    Ext m m' n q.nx ∧ HR B m' q.h w ∧ VRs m' q.v a.tmps.toList ∧ Below B w0 w ∧ n ≤ q.nx ∧ a.defers = d0 := by
  obtain ⟨t0, t1, t2, t3, t4, t5⟩ := trail_at rs ts h n q l R.log
  have hb := (R.exchB hft).all hall M.cb
  have ht := (R.exchT hft).all hall M.ct
  have e1 : (R.S rs.length).h = q.h := t2
  have e2 : (R.S rs.length).ts = q.v := t1
  have e3 : (R.S rs.length).n = q.nx := t3
  have e0 : (R.S 0).n = n := by
    show (at_ (trail call rs ts h n) 0).n = n
    rw [t0]
  have hts : ts' = q.v := by
    have hl : ts'.length = q.v.length := by rw [M.tl, ← e2, R.len hft (Nat.le_refl _)]
    apply List.ext_getElem hl
    intro i h1 h2
    have := ht i
    simp only [e2] at this
    rw [List.getD_eq_getElem?_getD, List.getD_eq_getElem?_getD, List.getElem?_eq_getElem h1, List.getElem?_eq_getElem h2] at this
    simpa using this
  refine ⟨⟨M.le, fun b hb' => ?_⟩, M.hr.blk (fun b => by have := hb b; simp only [e1] at this; exact this.symm), by rw [← hts]; exact M.tv, M.below, ?_, M.defers⟩
  · rcases M.dom b hb' with h1 | ⟨i, h1, h2, h3, h4⟩
    · exact .inl h1
    · refine .inr ⟨Nat.le_trans ?_ h3, Nat.lt_of_lt_of_le h4 ?_⟩
      · have := R.mono hft (Nat.zero_le i) (by omega); omega
      · have := R.mono hft (show i + 1 ≤ rs.length by omega) (Nat.le_refl _); omega
  · have := R.mono hft (Nat.zero_le rs.length) (Nat.le_refl _); omega

set_option maxHeartbeats 1000000 in
theorem Mid.go {R : Reg P call ops rs bef ts h n q l} (hcall : CallS P call) (hft : ∀ f xs, Foot (call f xs)) {B : Nat} {m : Mp} {w0 : World} {d0 : List Deferred} (hf : Fresh m n q.nx) {Q : Exit → Act → World → Prop}
    (hQ : ∀ m' a' w', Ext m m' n q.nx → HR B m' q.h w' → VRs m' q.v a'.tmps.toList → Below B w0 w' → n ≤ q.nx → a'.defers = d0 → Q .normal a' w') :
    ∀ (fuel : Nat) (listed : Array Bool) (a : Act) (w : World) (ts' : List AV) (h' : Mem) (m' : Mp), Mid R B m w0 d0 listed a w ts' h' m' → (List.range rs.length).countP (fun i => !listed.getD i true) ≤ fuel → wpAny P .any ops Q fuel listed a w := by
  have hsz := R.size
  have fin : ∀ {listed : Array Bool} {a : Act} {w : World} {ts' : List AV} {h' : Mem} {m' : Mp}, Mid R B m w0 d0 listed a w ts' h' m' → (∀ i, i < rs.length → listed[i]? = some true) → Q .normal a w := fun M hall => by
    obtain ⟨g1, g2, g3, g4, g5, g6⟩ := M.done hft hall
    exact hQ _ _ _ g1 g2 g3 g4 g5 g6
  have allOf : ∀ {listed : Array Bool}, listed.size = rs.length → Region.ready .any ops listed = [] → ∀ i, i < rs.length → listed[i]? = some true := fun {listed} hs hrd i => by
    induction i using Nat.strongRecOn with
    | _ i ih =>
      intro hi
      cases hli : listed[i]? with
      | none => rw [Array.getElem?_eq_none_iff] at hli; omega
      | some b =>
        cases b with
        | true => rfl
        | false =>
          have hio : i < ops.size := by omega
          obtain ⟨o, ho⟩ : ∃ o, ops[i]? = some o := ⟨ops[i], Array.getElem?_eq_getElem hio⟩
          have hE := (edgesOk_at R.edges i o (by simpa using ho)).2
          have hmem : i ∈ Region.ready .any ops listed := by
            unfold Region.ready
            rw [List.mem_filter]
            refine ⟨by simpa using hio, ?_⟩
            simp only [Array.getD_eq_getD_getElem?, hli, Option.getD_some, Bool.not_false, Bool.true_and, ho, Option.map_some]
            rw [Array.all_eq_true_iff_forall_mem]
            intro e he
            by_cases hb : Region.binds .any e = true
            · have h1 := hE e (by simpa using he) hb
              have h2 := ih e.on (by omega) (by omega)
              simp [h2]
            · simp [hb]
          rw [hrd] at hmem; cases hmem
  intro fuel
  induction fuel with
  | zero =>
    intro listed a w ts' h' m' M hc
    have hall : ∀ i, i < rs.length → listed[i]? = some true := fun i hi => by
      have h0 : (List.range rs.length).countP (fun i => !listed.getD i true) = 0 := by omega
      rw [List.countP_eq_zero] at h0
      have := h0 i (by simpa using hi)
      have hlt : i < listed.size := by rw [M.size]; exact hi
      rw [Array.getElem?_eq_getElem hlt]
      simp only [Array.getD_eq_getD_getElem?, Array.getElem?_eq_getElem hlt, Option.getD_some, Bool.not_eq_true', Bool.not_eq_false] at this
      rw [this]
    refine ⟨?_, fin M hall⟩
    unfold Region.ready
    rw [List.filter_eq_nil_iff]
    intro i hi
    simp only [List.mem_range] at hi
    simp [Array.getD_eq_getD_getElem?, hall i (by omega)]
  | succ fuel ih =>
    intro listed a w ts' h' m' M hc
    refine ⟨fun hrd => fin M (allOf M.size hrd), fun i hi => ?_⟩
    unfold Region.ready at hi
    rw [List.mem_filter] at hi
    obtain ⟨hi1, hi2⟩ := hi
    simp only [List.mem_range] at hi1
    rw [Bool.and_eq_true] at hi2
    obtain ⟨hn1, hn2⟩ := hi2
    have hir : i < rs.length := by omega
    have hil : i < listed.size := by rw [M.size]; exact hir
    have hlf : listed[i]? = some false := by
      rw [Array.getElem?_eq_getElem hil]
      simp only [Array.getD_eq_getD_getElem?, Array.getElem?_eq_getElem hil, Option.getD_some, Bool.not_eq_true'] at hn1
      rw [hn1]
    obtain ⟨o, ho⟩ : ∃ o, ops[i]? = some o := ⟨ops[i], Array.getElem?_eq_getElem hi1⟩
    obtain ⟨r, hr, hcr⟩ := R.oper ho
    obtain ⟨v, e1, e2, F, e4⟩ := R.one hft hr
    have hE := edgesOk_at R.edges i o (by simpa using ho)
    simp only [Nat.zero_add] at hE
    rw [ho] at hn2
    simp only [Option.map_some, Option.getD_some] at hn2
    rw [Array.all_eq_true_iff_forall_mem] at hn2
    have hpre : ∀ j, Bef bef i j → listed[j]? = some true := fun j hj => by
      obtain ⟨e, he, hb, hje⟩ := upBits_at (hE.1 j hj)
      have h1 := hn2 e (by simpa using he)
      rw [hb] at h1
      simp only [Bool.not_true, Bool.false_or] at h1
      have hon : e.on < i := hE.2 e he hb
      have hon' : listed[e.on]? = some true := by
        have hlt : e.on < listed.size := by omega
        rw [Array.getElem?_eq_getElem hlt]
        simp only [Array.getD_eq_getD_getElem?, Array.getElem?_eq_getElem hlt, Option.getD_some] at h1
        rw [h1]
      rcases hje with rfl | hje
      · exact hon'
      · exact M.closed e.on hon' j hje
    have hnot : ¬ (listed[i]? = some true) := by rw [hlf]; simp
    have agB := fun {x} hx => (R.exchB hft).agree (x := x) M.closed hir hnot hpre M.cb hx
    have agT := fun {x} hx => (R.exchT hft).agree (x := x) M.closed hir hnot hpre M.ct hx
    have hsame : stepR call ts' r = stepR call (R.S i).ts r := stepR_same call fun t ht => agT (x := t) (.inl ⟨r, hr, ht⟩)
    have tchW : ∀ b, R.WB i b → Tch (R.S i).n (R.S (i + 1)).n (R.S i).tc b := fun b hb => by
      rcases hb with hb | hb
      · exact .inr (F.sub b hb)
      · exact .inl hb
    have agr : ∀ b, Tch (R.S i).n (R.S (i + 1)).n (R.S i).tc b → h'.blk b = (R.S i).h.blk b := fun b hb => by
      rcases hb with hb | hb
      · exact agB (x := b) (.inr (.inr hb))
      · exact agB (x := b) (.inl hb)
    obtain ⟨h2', k1, k2, k3⟩ := F.again h' agr
    rw [← hsame] at k1
    have hn0 : n ≤ (R.S i).n := by
      have e0 : (R.S 0).n = n := by
        show (at_ (trail call rs ts h n) 0).n = n
        rw [(trail_at rs ts h n q l R.log).1]
      have := R.mono hft (Nat.zero_le i) (by omega); omega
    have hn9 : (R.S (i + 1)).n ≤ q.nx := by
      have e3 : (R.S rs.length).n = q.nx := (trail_at rs ts h n q l R.log).2.2.2.1
      have := R.mono hft (show i + 1 ≤ rs.length by omega) (Nat.le_refl _); omega
    have hfr : Fresh m' (R.S i).n (R.S (i + 1)).n := fun b h1 h2 => by
      by_cases hx : m' b = none
      · exact hx
      · rcases M.dom b hx with h3 | ⟨j, j1, j2, j3, j4⟩
        · exact absurd (hf b (by omega) (by omega)) h3
        · exfalso
          have hne : j ≠ i := fun e => by subst e; exact hnot j2
          rcases Nat.lt_or_ge j i with g | g
          · have := R.mono hft (show j + 1 ≤ i by omega) (by omega); omega
          · have := R.mono hft (show i + 1 ≤ j by omega) (by omega); omega
    refine stepR_sound hcall ho hcr (Nat.le_refl _) k1 M.hr M.tv hfr fun m2 u w2 x1 x2 x3 x4 x5 => ?_
    refine ih _ _ _ (putT ts' r.dst v) h2' m2 ?_ ?_
    · have hset : ∀ j, (listed.setIfInBounds i true)[j]? = some true ↔ j = i ∨ listed[j]? = some true := fun j => by
        rw [Array.getElem?_setIfInBounds]
        by_cases e : i = j
        · subst e; simp [hil]
        · simp [e, Ne.symm e]
      have hD : (fun j => (listed.setIfInBounds i true)[j]? = some true) = fun j => j = i ∨ listed[j]? = some true := funext fun j => propext (hset j)
      refine ⟨by simp [M.size], ?_, by rw [putT_length, M.tl], x2, ?_, ?_, ?_, M.below.trans x4, ?_, Mp.le_trans M.le x1.le, ?_⟩
      · rw [(guard_same M.tv hcr).2.1]
        exact put_same hcall (VRs.mono x1.le _ _ M.tv) o.dst x3
      · rw [hD]
        refine (R.exchB hft).step M.closed hir hnot M.cb (fun b hb => ?_) (fun b hb => ?_)
        · exact k2 b (tchW b hb)
        · by_cases ht : Tch (R.S i).n (R.S (i + 1)).n (R.S i).tc b
          · have z1 : h2'.blk b = (R.S (i + 1)).h.blk b := k2 b ht
            have z2 := (R.exchB hft).frame i hir b hb
            rw [agr b ht, z1]
            exact z2
          · exact k3 b ht
      · rw [hD]
        refine (R.exchT hft).step M.closed hir hnot M.ct (fun t ht => ?_) (fun t ht => ?_)
        · obtain ⟨r', hr', hd⟩ := ht
          rw [hr] at hr'; cases hr'
          simp only [e2, hd]
          exact putT_at (by rw [M.tl, R.len hft (by omega)]) t v
        · exact putT_ne _ v fun e => ht ⟨r, hr, e⟩
      · intro j hj b hb
        rw [hset] at hj ⊢
        rcases hj with rfl | hj
        · exact .inr (hpre b hb)
        · exact .inr (M.closed j hj b hb)
      · cases o.dst <;> exact M.defers
      · intro b hb
        rcases x1.dom b hb with h1 | h1
        · rcases M.dom b h1 with h2 | ⟨j, j1, j2, j3, j4⟩
          · exact .inl h2
          · exact .inr ⟨j, j1, (hset j).2 (.inr j2), j3, j4⟩
        · exact .inr ⟨i, hir, (hset i).2 (.inl rfl), h1.1, h1.2⟩
    · have := countP_lt (p := fun j => !listed.getD j true) (p' := fun j => !(listed.setIfInBounds i true).getD j true) (l := List.range rs.length) (i := i) (by simpa using hir) hn1 (by
        simp [Array.getD_eq_getD_getElem?, Array.getElem?_setIfInBounds, hil]) (fun j hj => by
        simp only [Array.getD_eq_getD_getElem?, Array.getElem?_setIfInBounds] at hj ⊢
        by_cases e : i = j
        · subst e; simp [hil] at hj
        · simpa [e] using hj)
      omega

/-- A region whose order is open. -/
theorem draw_sound (hcall : CallS P call) (hft : ∀ f xs, Foot (call f xs)) (R : Reg P call ops rs bef ts h n q l) (hm : P.follows .mixedOrders = true) {B : Nat} {m : Mp} {w : World} {a : Act} (hr : HR B m h w) (ht : VRs m ts a.tmps.toList) (hf : Fresh m n q.nx)
    {Q : Exit → Act → World → Prop} (hQ : ∀ m' a' w', Ext m m' n q.nx → HR B m' q.h w' → VRs m' q.v a'.tmps.toList → Below B w w' → n ≤ q.nx → a'.defers = a.defers → Q .normal a' w') (id : Nat) : (Code.region id ops true).wp P Q a w := by
  refine wp_region_any hm ?_
  have hsz := R.size
  have hno : ∀ i, ¬ ((Array.replicate ops.size false)[i]? = some true) := fun i hi => by
    rw [Array.getElem?_replicate] at hi
    split at hi <;> simp at hi
  have hD : (fun i => (Array.replicate ops.size false)[i]? = some true) = fun _ => False := funext fun i => propext ⟨fun h => (hno i h).elim, fun h => h.elim⟩
  have e0 := (trail_at rs ts h n q l R.log).1
  refine Mid.go (R := R) hcall hft (B := B) (m := m) (w0 := w) (d0 := a.defers) hf hQ ops.size _ a _ ts h m ⟨by simp [hsz], ht, rfl, hr.heap rfl, ?_, ?_, fun j hj => (hno j hj).elim, (Below.refl B w).drew, rfl, Mp.le_refl m, fun b hb => .inl hb⟩ ?_
  · rw [hD]
    have : (fun b => h.blk b) = (fun b => (R.S 0).h.blk b) := by
      funext b; show h.blk b = (at_ (trail call rs ts h n) 0).h.blk b; rw [e0]
    rw [this]
    exact Exch.none
  · rw [hD]
    have : (fun t => ts.getD t (.tup [])) = (fun t => (R.S 0).ts.getD t (.tup [])) := by
      funext t; show ts.getD t (.tup []) = (at_ (trail call rs ts h n) 0).ts.getD t (.tup []); rw [e0]
    rw [this]
    exact Exch.none
  · rw [← hsz]
    exact Nat.le_trans List.countP_le_length (by simp)

end
end Go.Proofs.YtamfoplfbidolaaGreatDoorE

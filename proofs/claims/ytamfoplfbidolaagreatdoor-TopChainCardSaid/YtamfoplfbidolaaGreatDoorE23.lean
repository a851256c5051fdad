/- The engine, part 23: loops; rows of whole numbers. -/
import Derived.Test.YtamfoplfbidolaaGreatDoorE22
namespace Go.Proofs.YtamfoplfbidolaaGreatDoorE
open Go Go.RowKit
set_option linter.unusedVariables false
set_option linter.unusedSimpArgs false

theorem Tr.put_lf {α : Type} (f : Nat) (k : Nat) (x : Option α) : Tr.put (f + 1) (.lf : Tr α) k x = Tr.put (f + 1) (.nd .lf none .lf) k x := by
  simp only [Tr.put]
theorem Tr.put_comm {α : Type} : ∀ (f g : Nat) (t : Tr α) (k j : Nat) (x y : Option α), k ≠ j → Tr.put f (Tr.put g t j y) k x = Tr.put g (Tr.put f t k x) j y
  | 0, g, t, k, j, x, y, _ => by simp only [Tr.put]
  | f + 1, 0, t, k, j, x, y, _ => by simp only [Tr.put]
  | f + 1, g + 1, t, k, j, x, y, hne => by
    have key : ∀ l v r, Tr.put (f + 1) (Tr.put (g + 1) (.nd l v r : Tr α) j y) k x = Tr.put (g + 1) (Tr.put (f + 1) (.nd l v r) k x) j y := by
      intro l v r
      have ih := @Tr.put_comm α f g
      rcases hk : Nat.beq k 0 with _ | _ <;> rcases hj : Nat.beq j 0 with _ | _ <;> rcases pk : Nat.beq (k % 2) 1 with _ | _ <;> rcases pj : Nat.beq (j % 2) 1 with _ | _ <;> simp only [Tr.put, hk, hj, pk, pj]
      all_goals
        first
          | (exfalso; have a := Nat.eq_of_beq_eq_true hk; have b := Nat.eq_of_beq_eq_true hj; omega)
          | (rw [ih]
             have a := Nat.ne_of_beq_eq_false hk; have b := Nat.ne_of_beq_eq_false hj
             first
               | (have c := Nat.eq_of_beq_eq_true pk; have d := Nat.eq_of_beq_eq_true pj; omega)
               | (have c := Nat.ne_of_beq_eq_false pk; have d := Nat.ne_of_beq_eq_false pj; omega))
    cases t with
    | lf => rw [Tr.put_lf g, Tr.put_lf f, key]
    | nd l v r => exact key l v r
theorem Mem.set_comm (h : Mem) {b c : Nat} (x y : Option Blk) (e : b ≠ c) : (h.set b x).set c y = (h.set c y).set b x := Tr.put_comm _ _ h c b y x (Ne.symm e)

/-- A slot is read. -/
def sl (ts : List AV) (i : Nat) : AV := ts.getD i (.tup [])
/-- A slot is written. -/
def setT (ts : List AV) (i : Nat) (v : AV) : List AV := ts.set i v
/-- The slots a call begins with. -/
def frame (nt : Nat) (args : List AV) : List AV := args ++ List.replicate (nt - args.length) (.tup [])
theorem ev_t (ts : List AV) (i : Nat) : X.ev ts (.t i) = sl ts i := Eq.trans rfl rfl
theorem ev_c (ts : List AV) (v : AV) : X.ev ts (.c v) = v := Eq.trans rfl rfl
theorem want_none (ts : List AV) : wantA ts none = true := Eq.trans rfl rfl
theorem want_some (ts : List AV) (t : Nat) (w : Bool) : wantA ts (some (t, w)) = match sl ts t with
    | .bool b => b == w
    | _ => false := Eq.trans rfl rfl
theorem put_none (ts : List AV) (v : AV) : putT ts none v = ts := Eq.trans rfl rfl
theorem put_some (ts : List AV) (i : Nat) (v : AV) : putT ts (some i) v = setT ts i v := Eq.trans rfl rfl
theorem res_tmp (ts : List AV) (i : Nat) : resA ts (.tmp i) = A.ret (sl ts i) := Eq.trans rfl rfl
theorem res_cell (ts : List AV) (i n : Nat) : resA ts (.cell i n) = match sl ts i with
    | .ptr b o => A.bind (rdBlk b) fun k => A.ofOpt (partA k.cells o n)
    | _ => A.fail := Eq.trans rfl rfl
theorem len_setT (ts : List AV) (i : Nat) (v : AV) : (setT ts i v).length = ts.length := List.length_set
theorem sl_same {ts : List AV} {i : Nat} (h : i < ts.length) (v : AV) : sl (setT ts i v) i = v := by
  unfold sl setT; rw [List.getD_eq_getElem?_getD, List.getElem?_set_self h]; rfl
theorem sl_ne {i j : Nat} (h : (i == j) = false) (ts : List AV) (v : AV) : sl (setT ts i v) j = sl ts j := by
  unfold sl setT; rw [List.getD_eq_getElem?_getD, List.getElem?_set_ne (by simpa using h), List.getD_eq_getElem?_getD]
theorem len_frame (nt : Nat) (args : List AV) : (frame nt args).length = max args.length nt := by
  unfold frame; rw [List.length_append, List.length_replicate]; omega
theorem sl_frame {nt : Nat} {args : List AV} {i : Nat} (h : i < args.length) : sl (frame nt args) i = args.getD i (.tup []) := by
  unfold sl frame; rw [List.getD_eq_getElem?_getD, List.getElem?_append_left h, List.getD_eq_getElem?_getD]
theorem xF_fr {T : FuncId → Option AF} {f : FuncId} {F : AF} (hF : T f = some F) (n : Nat) (args : List AV) : xF T n f args = A.bind (xC T n F.body (frame F.nt args)) fun r => match r.1 with
    | .exit _ => A.fail
    | _ => A.bind (resAll r.2 F.res) fun vs => A.ret (oneOf vs) := xF_of hF n args

theorem yC_skip (T : FuncId → Option AF) (n : Nat) (ts : List AV) : xC T (n + 1) .skip ts = A.ret (.nor, ts) := Eq.trans rfl rfl
theorem yC_exit (T : FuncId → Option AF) (n id : Nat) (ts : List AV) : xC T (n + 1) (.exit id) ts = A.ret (.exit id, ts) := Eq.trans rfl rfl
theorem yC_ret (T : FuncId → Option AF) (n : Nat) (ts : List AV) : xC T (n + 1) .ret ts = A.ret (.ret, ts) := Eq.trans rfl rfl
theorem yC_seq (T : FuncId → Option AF) (n : Nat) (a b : AC) (ts : List AV) : xC T (n + 1) (.seq a b) ts = A.bind (xC T n a ts) fun r => match r.1 with
    | .nor => xC T n b r.2
    | _ => A.ret r := Eq.trans (xC_seq ..) rfl
theorem yC_cond (T : FuncId → Option AF) (n : Nat) (c : X) (a b : AC) (ts : List AV) : xC T (n + 1) (.cond c a b) ts = match c.ev ts with
    | .bool true => xC T n a ts
    | .bool false => xC T n b ts
    | _ => A.fail := Eq.trans (xC_cond ..) rfl
theorem yC_blk (T : FuncId → Option AF) (n id : Nat) (c : AC) (ts : List AV) : xC T (n + 1) (.blk id c) ts = A.bind (xC T n c ts) fun r => match r.1 with
    | .exit i => match Nat.beq i id with
      | true => A.ret (.nor, r.2)
      | false => A.ret r
    | _ => A.ret r := Eq.trans (xC_blk ..) rfl
theorem yC_reg (T : FuncId → Option AF) (n : Nat) (rs : List AR) (bef : List Nat) (ts : List AV) : xC T (n + 1) (.reg rs false bef) ts = A.bind (regRun (xF T n) rs ts) fun ts => A.ret (.nor, ts) := Eq.trans (xC_reg ..) rfl
theorem yC_draw (T : FuncId → Option AF) (n : Nat) (rs : List AR) (bef : List Nat) (ts : List AV) : xC T (n + 1) (.reg rs true bef) ts = A.bind (regDraw (xF T n) rs bef ts) fun ts => A.ret (.nor, ts) := Eq.trans (xC_draw ..) rfl
theorem reg_nil (c : FuncId → List AV → A AV) (ts : List AV) : regRun c [] ts = A.ret ts := Eq.trans rfl rfl
theorem reg_cons (c : FuncId → List AV → A AV) (r : AR) (rs : List AR) (ts : List AV) : regRun c (r :: rs) ts = A.bind (stepR c ts r) fun v => regRun c rs (putT ts r.dst v) := Eq.trans rfl rfl

/-- It ends, so. -/
def Post {α : Type} (o : Option (Rs α)) (Q : α → Mem → Nat → Nat → Nat → Prop) : Prop := match o with
  | some r => Q r.v r.h r.nx r.tc r.wr
  | none => False
theorem Post.some {α : Type} (v : α) (h : Mem) (n tc wr : Nat) (Q : α → Mem → Nat → Nat → Nat → Prop) : Post (some ⟨v, h, n, tc, wr⟩) Q = Q v h n tc wr := Eq.trans rfl rfl
theorem Post.inv {α : Type} {o : Option (Rs α)} {Q : α → Mem → Nat → Nat → Nat → Prop} (p : Post o Q) : ∃ v h n tc wr, o = Option.some ⟨v, h, n, tc, wr⟩ ∧ Q v h n tc wr := by
  unfold Post at p
  cases o with
  | none => exact p.elim
  | some r => exact ⟨_, _, _, _, _, rfl, p⟩
theorem Post.of {α : Type} {o : Option (Rs α)} {Q : α → Mem → Nat → Nat → Nat → Prop} {v : α} {h : Mem} {n tc wr : Nat} (e : o = Option.some ⟨v, h, n, tc, wr⟩) (q : Q v h n tc wr) : Post o Q := by
  rw [e]; exact q
theorem Post.mono {α : Type} {o : Option (Rs α)} {Q Q' : α → Mem → Nat → Nat → Nat → Prop} (p : Post o Q) (f : ∀ v h n tc wr, Q v h n tc wr → Q' v h n tc wr) : Post o Q' := by
  obtain ⟨v, h, n, tc, wr, e, q⟩ := p.inv
  exact Post.of e (f _ _ _ _ _ q)

theorem Post_bind {α β : Type} (x : A α) (f : α → A β) (h : Mem) (n lg : Nat) (Q : β → Mem → Nat → Nat → Nat → Prop) :
    Post (A.bind x f h n lg) Q = Post (x h n lg) fun v h' n' tc wr => Post (f v h' n' lg) fun v2 h2 n2 tc2 wr2 => Q v2 h2 n2 (tc ||| tc2) (wr ||| wr2) := by
  unfold A.bind
  cases x h n lg with
  | none => rfl
  | some r =>
    simp only [Post]
    cases f r.v r.h r.nx lg <;> rfl
theorem Post_ret {α : Type} (v : α) (h : Mem) (n lg : Nat) (Q : α → Mem → Nat → Nat → Nat → Prop) : Post (A.ret v h n lg) Q = Q v h n 0 0 := Eq.trans rfl rfl
theorem Post_congr {α : Type} {o o' : Option (Rs α)} {Q : α → Mem → Nat → Nat → Nat → Prop} (e : o = o') : Post o Q = Post o' Q := by rw [e]

theorem Post_fail {α : Type} (h : Mem) (n lg : Nat) (Q : α → Mem → Nat → Nat → Nat → Prop) : Post (A.fail h n lg) Q = False := Eq.trans rfl rfl
theorem ofOpt_some {α : Type} (v : α) : A.ofOpt (Option.some v) = A.ret v := Eq.trans rfl rfl
theorem ofOpt_none {α : Type} : A.ofOpt (none : Option α) = A.fail := Eq.trans rfl rfl
theorem eq_of_Post {α : Type} {o : Option (Rs α)} {v : α} {h : Mem} {n tc wr : Nat} (p : Post o fun v' h' n' tc' wr' => v' = v ∧ h' = h ∧ n' = n ∧ tc' = tc ∧ wr' = wr) : o = Option.some ⟨v, h, n, tc, wr⟩ := by
  obtain ⟨_, _, _, _, _, e, rfl, rfl, rfl, rfl, rfl⟩ := p.inv
  exact e
/-- The call answers 'true', however many rounds it takes. -/
def Yes (T : FuncId → Option AF) (f : FuncId) (args : List AV) (h : Mem) (n : Nat) : Prop := ∃ fuel h' n' tc wr, xF T fuel f args h n 0 = Option.some ⟨.bool true, h', n', tc, wr⟩
theorem Yes.of {T : FuncId → Option AF} {f : FuncId} {args : List AV} {h : Mem} {n : Nat} (fuel : Nat) (p : Post (xF T fuel f args h n 0) fun a _ _ _ _ => a = .bool true) : Yes T f args h n := by
  obtain ⟨a, h', n', tc, wr, e, q⟩ := p.inv
  rw [q] at e
  exact ⟨fuel, h', n', tc, wr, e⟩
/-- The same where the order is open. -/
def PostL (o : Option (Rs (List AV) × List (Nat × Nat))) (Q : List AV → Mem → Nat → Nat → Nat → List (Nat × Nat) → Prop) : Prop := match o with
  | some (q, l) => Q q.v q.h q.nx q.tc q.wr l
  | none => False
theorem PostL_nil (c : FuncId → List AV → A AV) (ts : List AV) (h : Mem) (n : Nat) (Q : List AV → Mem → Nat → Nat → Nat → List (Nat × Nat) → Prop) : PostL (regLog c [] ts h n) Q = Q ts h n 0 0 [] := Eq.trans rfl rfl
theorem PostL_cons (c : FuncId → List AV → A AV) (r : AR) (rs : List AR) (ts : List AV) (h : Mem) (n : Nat) (Q : List AV → Mem → Nat → Nat → Nat → List (Nat × Nat) → Prop) :
    PostL (regLog c (r :: rs) ts h n) Q = Post (stepR c ts r h n n) fun v h' n' tc wr => PostL (regLog c rs (putT ts r.dst v) h' n') fun ts2 h2 n2 tc2 wr2 l => Q ts2 h2 n2 (tc ||| tc2) (wr ||| wr2) ((tc ||| (2 ^ n' - 2 ^ n), wr ||| (2 ^ n' - 2 ^ n)) :: l) := by
  simp only [regLog]
  cases stepR c ts r h n n with
  | none => rfl
  | some s =>
    simp only [Post]
    rcases regLog c rs (putT ts r.dst s.v) s.h s.nx with _ | ⟨q, l⟩ <;> rfl
theorem Post_draw (c : FuncId → List AV → A AV) (rs : List AR) (bef : List Nat) (ts : List AV) (h : Mem) (n lg : Nat) (Q : List AV → Mem → Nat → Nat → Nat → Prop) :
    Post (regDraw c rs bef ts h n lg) Q = PostL (regLog c rs ts h n) fun ts' h' n' tc wr l => allApart [] bef l = true ∧ Q ts' h' n' (lowBits lg tc) (lowBits lg wr) := by
  unfold regDraw
  rcases regLog c rs ts h n with _ | ⟨q, l⟩
  · rfl
  · simp only [PostL]
    cases allApart [] bef l <;> simp [Post]

/-- What a round of a loop comes to. -/
def Round (I : Nat → List AV → Mem → Nat → Nat → Nat → Prop) (R : Ex → List AV → Mem → Nat → Nat → Nat → Prop) (m : Nat) (v : Ex × List AV) (h : Mem) (nx tc wr : Nat) : Prop :=
  (v.1 = .nor ∧ ∃ m', m' < m ∧ I m' v.2 h nx tc wr) ∨ (v.1 ≠ .nor ∧ R v.1 v.2 h nx tc wr)
theorem Round.nor {I : Nat → List AV → Mem → Nat → Nat → Nat → Prop} {R : Ex → List AV → Mem → Nat → Nat → Nat → Prop} {m m' : Nat} {ts : List AV} {h : Mem} {nx tc wr : Nat} (hm : m' < m) (hi : I m' ts h nx tc wr) : Round I R m (.nor, ts) h nx tc wr := .inl ⟨rfl, m', hm, hi⟩
theorem Round.exit {I : Nat → List AV → Mem → Nat → Nat → Nat → Prop} {R : Ex → List AV → Mem → Nat → Nat → Nat → Prop} {m i : Nat} {ts : List AV} {h : Mem} {nx tc wr : Nat} (hr : R (.exit i) ts h nx tc wr) : Round I R m (.exit i, ts) h nx tc wr := .inr ⟨(by intro e; cases e), hr⟩
theorem Round.ret {I : Nat → List AV → Mem → Nat → Nat → Nat → Prop} {R : Ex → List AV → Mem → Nat → Nat → Nat → Prop} {m : Nat} {ts : List AV} {h : Mem} {nx tc wr : Nat} (hr : R .ret ts h nx tc wr) : Round I R m (.ret, ts) h nx tc wr := .inr ⟨(by intro e; cases e), hr⟩

/-- A loop whose every round keeps I, at a lower measure, or leaves with R. -/
theorem loop_rule {T : FuncId → Option AF} {C : Nat} {c : AC} {lg : Nat} (I : Nat → List AV → Mem → Nat → Nat → Nat → Prop) (R : Ex → List AV → Mem → Nat → Nat → Nat → Prop)
    (hI : ∀ m ts h nx tc wr, I m ts h nx tc wr → Post (xC T C c ts h nx lg) fun v h' nx' tc' wr' => Round I R m v h' nx' (tc ||| tc') (wr ||| wr')) :
    ∀ m ts h nx tc wr, I m ts h nx tc wr → ∃ e ts' h' nx' tc' wr', xC T (C + m + 1) (.loop c) ts h nx lg = some ⟨(e, ts'), h', nx', tc', wr'⟩ ∧ e ≠ .nor ∧ R e ts' h' nx' (tc ||| tc') (wr ||| wr') := by
  intro m
  induction m using Nat.strongRecOn with
  | ind m ih =>
    intro ts h nx tc wr hi
    obtain ⟨⟨e, ts'⟩, h', nx', tc', wr', e1, hr⟩ := (hI m ts h nx tc wr hi).inv
    have e1' := xC_mono T C (C + m) _ _ _ _ _ _ (Nat.le_add_right ..) e1
    rcases hr with ⟨he, m', hm, hi'⟩ | ⟨hne, hr⟩
    · obtain ⟨e2, ts2, h2, nx2, tc2, wr2, e3, hne2, hr2⟩ := ih m' hm _ _ _ _ _ hi'
      refine ⟨e2, ts2, h2, nx2, tc' ||| tc2, wr' ||| wr2, ?_, hne2, by rw [← Nat.or_assoc, ← Nat.or_assoc]; exact hr2⟩
      simp only at he
      subst he
      rw [xC_loop]
      unfold A.bind
      rw [e1']
      simp only
      rw [xC_mono T (C + m' + 1) (C + m) _ _ _ _ _ _ (by omega) e3]
    · refine ⟨e, ts', h', nx', tc', wr', ?_, hne, hr⟩
      rw [xC_loop]
      unfold A.bind
      rw [e1']
      cases e with
      | nor => exact absurd rfl hne
      | exit i => simp [A.ret]
      | ret => simp [A.ret]

theorem Post.loop {T : FuncId → Option AF} {C n : Nat} {c : AC} {lg : Nat} {I : Nat → List AV → Mem → Nat → Nat → Nat → Prop} {R : Ex → List AV → Mem → Nat → Nat → Nat → Prop} {Q : Ex × List AV → Mem → Nat → Nat → Nat → Prop}
    (hI : ∀ m ts h nx tc wr, I m ts h nx tc wr → Post (xC T C c ts h nx lg) fun v h' nx' tc' wr' => Round I R m v h' nx' (tc ||| tc') (wr ||| wr')) (m : Nat) {ts : List AV} {h : Mem} {nx : Nat} (hi : I m ts h nx 0 0) (hn : C + m + 1 ≤ n)
    (hq : ∀ e ts' h' nx' tc wr, R e ts' h' nx' tc wr → Q (e, ts') h' nx' tc wr) : Post (xC T n (.loop c) ts h nx lg) Q := by
  obtain ⟨e, ts', h', nx', tc, wr, e1, _, hr⟩ := loop_rule I R hI m ts h nx 0 0 hi
  rw [Nat.zero_or, Nat.zero_or] at hr
  exact Post.of (xC_mono T _ n _ _ _ _ _ _ hn e1) (hq _ _ _ _ _ _ hr)

/-- The length of what a slot holds. -/
def lenOp (v : AV) : A AV := match v with
  | .slc _ _ n _ => A.ret (.int .i64 n)
  | .nils => A.ret (.int .i64 0)
  | _ => A.fail
theorem op_len (c : FuncId → List AV → A AV) (ts : List AV) (x : X) : opRun c ts (.len false x) = lenOp (x.ev ts) := Eq.trans rfl rfl
theorem lenOp_slc (b o n : Nat) (c : Option Nat) : lenOp (.slc b o n c) = A.ret (.int .i64 n) := Eq.trans rfl rfl
theorem lenOp_nils : lenOp .nils = A.ret (.int .i64 0) := Eq.trans rfl rfl

/-- A row of whole numbers that is read. -/
def IRow (k : IntKind) (v : AV) (h : Mem) (nx : Nat) (l : List Int) : Prop :=
  (v = .nils ∧ l = []) ∨ ∃ b c, v = .slc b 0 l.length c ∧ (l ≠ [] → b < nx ∧ ∃ K, h.blk b = some K ∧ ∀ i (hi : i < l.length), K.cells[i]? = some (.int k l[i]))
theorem IRow.len {k : IntKind} {v : AV} {h : Mem} {nx : Nat} {l : List Int} (r : IRow k v h nx l) : lenA v = some l.length := by
  rcases r with ⟨rfl, rfl⟩ | ⟨b, c, rfl, _⟩ <;> rfl
theorem IRow.lenOp {k : IntKind} {v : AV} {h : Mem} {nx : Nat} {l : List Int} (r : IRow k v h nx l) : lenOp v = A.ret (.int .i64 l.length) := by
  rcases r with ⟨rfl, rfl⟩ | ⟨b, c, rfl, _⟩ <;> rfl
theorem IRow.keep {k : IntKind} {v : AV} {h h' : Mem} {nx nx' : Nat} {l : List Int} (r : IRow k v h nx l) (hn : nx ≤ nx') (e : ∀ b, b < nx → h'.blk b = h.blk b) : IRow k v h' nx' l := by
  rcases r with ⟨rfl, rfl⟩ | ⟨b, c, rfl, g⟩
  · exact .inl ⟨rfl, rfl⟩
  · refine .inr ⟨b, c, rfl, fun hl => ?_⟩
    obtain ⟨h1, K, h2, h3⟩ := g hl
    exact ⟨by omega, K, by rw [e b h1]; exact h2, h3⟩
/-- An element is read. -/
theorem IRow.at {k : IntKind} {v : AV} {h : Mem} {nx : Nat} {l : List Int} (r : IRow k v h nx l) {i : Nat} (hi : i < l.length) : ∃ b c K, v = .slc b 0 l.length c ∧ b < nx ∧ h.blk b = some K ∧ K.cells[i]? = some (.int k l[i]) := by
  rcases r with ⟨rfl, rfl⟩ | ⟨b, c, rfl, g⟩
  · exact absurd hi (Nat.not_lt_zero _)
  · obtain ⟨h1, K, h2, h3⟩ := g (by intro e; subst e; exact absurd hi (Nat.not_lt_zero _))
    exact ⟨b, c, K, rfl, h1, h2, h3 i hi⟩

theorem toN_nat {n i : Nat} (h : i < n) : toN n (i : Int) = some i := by
  unfold toN
  have h1 : decide ((0 : Int) ≤ (i : Int)) = true := decide_eq_true (Int.natCast_nonneg i)
  have h2 : decide ((i : Int) < (n : Int)) = true := decide_eq_true (Int.ofNat_lt.2 h)
  rw [h1, h2]
  rfl

/-- The rows as they come in. -/
def IsRow (k : IntKind) (w : World) (a : Option Addr) (len cap : Nat) (zs : List Int) : Prop :=
  (a = none ∧ len = 0 ∧ cap = 0 ∧ zs = []) ∨
  ∃ x, a = some x ∧ len ≤ cap ∧ cap ≤ maxLen ∧ zs.length = cap ∧ (∀ i, i < zs.length → w.cell? (x.add i) = some (.int k (zs.getD i 0))) ∧ ∀ n ∈ zs, (Lit.int k n).wf = true
def rowArg (k : IntKind) (a : Option Addr) (len cap : Nat) (zs : List Int) : Arg := match a with
  | none => .nilrow
  | some x => .row x len cap 1 (zs.map (.int k ·))
theorem VRs.ints (k : IntKind) (m : Mp) : ∀ zs : List Int, VRs m (zs.map (AV.int k ·)) (zs.map (Value.int k ·))
  | [] => VRs.nil
  | z :: zs => VRs.cons_iff.2 ⟨VR.int k z, VRs.ints k m zs⟩
theorem IsRow.ok {k : IntKind} {w : World} {a : Option Addr} {len cap : Nat} {zs : List Int} (r : IsRow k w a len cap zs) : (rowArg k a len cap zs).ok w := by
  rcases r with ⟨rfl, rfl, rfl, rfl⟩ | ⟨x, rfl, h1, h2, h3, h4, h5⟩
  · exact trivial
  · refine ⟨h1, Nat.one_pos, by rw [List.length_map, h3, Nat.mul_one], zs.map (Value.int k ·), fun m => VRs.ints k m zs, fun i v hi => ?_⟩
    rw [List.getElem?_map] at hi
    cases hz : zs[i]? with
    | none => rw [hz] at hi; cases hi
    | some z =>
      rw [hz] at hi
      have hlt : i < zs.length := (List.getElem?_eq_some_iff.1 hz).1
      have := h4 i hlt
      rw [List.getD_eq_getElem?_getD, hz] at this
      rw [this]
      exact hi
theorem IsRow.val {k : IntKind} {w : World} {a : Option Addr} {len cap : Nat} {zs : List Int} (r : IsRow k w a len cap zs) : (rowArg k a len cap zs).val = .slice a len cap := by
  rcases r with ⟨rfl, rfl, rfl, rfl⟩ | ⟨x, rfl, h1, h2, h3, h4, h5⟩ <;> rfl
/-- The memory with a row's block. -/
def rowMem (cap : Nat) (h : Mem) (n : Nat) (cs : List AV) : Mem := match cap with
  | 0 => h
  | _ + 1 => h.set n (some ⟨0, 1, false, false, cs⟩)
/-- A row as the engine has it. -/
theorem row_irow {k : IntKind} {len cap n nx : Nat} {zs : List Int} (h1 : len ≤ cap) (h3 : zs.length = cap) (h : Mem) (hn : n < nx) :
    IRow k (.slc n 0 len (some cap)) (rowMem cap h n (zs.map (AV.int k ·))) nx (zs.take len) := by
  have hl : (zs.take len).length = len := by rw [List.length_take]; omega
  refine .inr ⟨n, some cap, by rw [hl], fun hne => ⟨hn, ⟨0, 1, false, false, zs.map (AV.int k ·)⟩, ?_, fun i hi => ?_⟩⟩
  · cases cap with
    | zero =>
      exfalso
      apply hne
      have : len = 0 := by omega
      subst this
      rfl
    | succ c => exact Mem.blk_set_same ..
  · simp only [List.getElem_take]
    rw [List.getElem?_map, List.getElem?_eq_getElem (by omega)]
    rfl
theorem row_over {k : IntKind} {v : AV} {len cap n nx m : Nat} {zs l : List Int} {h : Mem} (r : IRow k v h m l) (hm : m ≤ n) (hn : m ≤ nx) : IRow k v (rowMem cap h n (zs.map (AV.int k ·))) nx l := by
  cases cap with
  | zero => exact r.keep hn (fun _ _ => rfl)
  | succ c => exact r.keep hn (fun b hb => Mem.blk_set_ne _ _ _ _ (by omega))

attribute [irreducible] Post PostL

end Go.Proofs.YtamfoplfbidolaaGreatDoorE

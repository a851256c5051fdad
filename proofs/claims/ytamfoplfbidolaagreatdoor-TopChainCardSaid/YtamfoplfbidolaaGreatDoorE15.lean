/- The engine, part 15: operations in whatever order: a plain law. And: which temporaries an operation reads. -/
import Derived.Test.YtamfoplfbidolaaGreatDoorE14
namespace Go.Proofs.YtamfoplfbidolaaGreatDoorE
open Go Go.RowKit
set_option linter.unusedVariables false
set_option linter.unusedSimpArgs false

/-! ### What is read and written in an order that may be exchanged -/
section
variable {L V : Type}

structure Exch (k : Nat) (val : Nat → L → V) (W R : Nat → L → Prop) (bef : Nat → Nat → Prop) : Prop where
  frame : ∀ i, i < k → ∀ x, ¬ W i x → val (i + 1) x = val i x
  conf : ∀ i j, i < j → j < k → ¬ bef j i → ∀ x, (W i x → ¬ (R j x ∨ W j x)) ∧ (W j x → ¬ (R i x ∨ W i x))

/-- What the operations of a set have made, each place as the last of its writers left it. -/
def Cons (k : Nat) (val : Nat → L → V) (W : Nat → L → Prop) (D : Nat → Prop) (cur : L → V) : Prop :=
  ∀ x, (∀ i, D i → i < k → W i x → (∀ j, D j → j < k → W j x → j ≤ i) → cur x = val (i + 1) x) ∧ ((∀ i, D i → i < k → ¬ W i x) → cur x = val 0 x)

theorem last_writer {W : Nat → L → Prop} (x : L) : ∀ p, (∃ i, i < p ∧ W i x ∧ ∀ j, i < j → j < p → ¬ W j x) ∨ ∀ i, i < p → ¬ W i x
  | 0 => .inr fun i h => absurd h (Nat.not_lt_zero i)
  | p + 1 => by
    by_cases hp : W p x
    · exact .inl ⟨p, Nat.lt_succ_self p, hp, fun j h1 h2 => by omega⟩
    · rcases last_writer x p with ⟨i, h1, h2, h3⟩ | h
      · refine .inl ⟨i, by omega, h2, fun j h4 h5 => ?_⟩
        by_cases e : j = p
        · subst e; exact hp
        · exact h3 j h4 (by omega)
      · refine .inr fun i hi => ?_
        by_cases e : i = p
        · subst e; exact hp
        · exact h i (by omega)

variable {k : Nat} {val : Nat → L → V} {W R : Nat → L → Prop} {bef : Nat → Nat → Prop}

theorem Exch.still (E : Exch k val W R bef) {x : L} {a : Nat} : ∀ b, a ≤ b → b ≤ k → (∀ j, a ≤ j → j < b → ¬ W j x) → val b x = val a x
  | 0, h, _, _ => by have : a = 0 := by omega
                     subst this; rfl
  | b + 1, h, hk, hw => by
    by_cases e : a = b + 1
    · subst e; rfl
    · rw [E.frame b (by omega) x (hw b (by omega) (Nat.lt_succ_self b))]
      exact E.still b (by omega) (by omega) (fun j h1 h2 => hw j h1 (by omega))

variable {D : Nat → Prop} {cur : L → V} {o : Nat}

theorem Exch.before (E : Exch k val W R bef) (hcl : ∀ j, D j → ∀ i, bef j i → D i) (ho : o < k) (hno : ¬ D o) {x : L} (hx : R o x ∨ W o x) {i : Nat} (hi : D i) (hik : i < k) (hw : W i x) : i < o := by
  rcases Nat.lt_trichotomy i o with h | h | h
  · exact h
  · subst h; exact absurd hi hno
  · by_cases hb : bef i o
    · exact absurd (hcl i hi o hb) hno
    · exact absurd hx ((E.conf o i h hik hb x).2 hw)

theorem Exch.agree (E : Exch k val W R bef) (hcl : ∀ j, D j → ∀ i, bef j i → D i) (ho : o < k) (hno : ¬ D o) (hpre : ∀ i, bef o i → D i) (hc : Cons k val W D cur) {x : L} (hx : R o x ∨ W o x) : cur x = val o x := by
  have inD : ∀ j, j < o → W j x → D j := fun j hj hw => by
    by_cases hb : bef o j
    · exact hpre j hb
    · exact absurd hx ((E.conf j o hj ho hb x).1 hw)
  rcases last_writer (W := W) x o with ⟨i, h1, h2, h3⟩ | h
  · rw [(hc x).1 i (inD i h1 h2) (by omega) h2 (fun j hj hjk hw => by
      have := E.before hcl ho hno hx hj hjk hw
      rcases Nat.lt_or_ge i j with q | q
      · exact absurd hw (h3 j q this)
      · exact q)]
    exact (E.still o (by omega) (by omega) (fun j a b => h3 j (by omega) b)).symm
  · rw [(hc x).2 (fun i hi hik hw => h i (E.before hcl ho hno hx hi hik hw) hw)]
    exact (E.still o (Nat.zero_le o) (by omega) (fun j _ b => h j b)).symm

theorem Exch.step (E : Exch k val W R bef) (hcl : ∀ j, D j → ∀ i, bef j i → D i) (ho : o < k) (hno : ¬ D o) (hc : Cons k val W D cur) {cur' : L → V} (h1 : ∀ x, W o x → cur' x = val (o + 1) x) (h2 : ∀ x, ¬ W o x → cur' x = cur x) :
    Cons k val W (fun i => i = o ∨ D i) cur' := by
  intro x
  by_cases hw : W o x
  · refine ⟨fun i hi hik hwi hmax => ?_, fun hn => absurd hw (hn o (.inl rfl) ho)⟩
    have hoi := hmax o (.inl rfl) ho hw
    rcases hi with rfl | hi
    · exact h1 x hw
    · have := E.before hcl ho hno (.inr hw) hi hik hwi
      omega
  · rw [h2 x hw]
    refine ⟨fun i hi hik hwi hmax => ?_, fun hn => (hc x).2 fun i hi hik => hn i (.inr hi) hik⟩
    rcases hi with rfl | hi
    · exact absurd hwi hw
    · exact (hc x).1 i hi hik hwi fun j hj hjk hwj => hmax j (.inr hj) hjk hwj

theorem Exch.all (E : Exch k val W R bef) (hD : ∀ i, i < k → D i) (hc : Cons k val W D cur) (x : L) : cur x = val k x := by
  rcases last_writer (W := W) x k with ⟨i, h1, h2, h3⟩ | h
  · rw [(hc x).1 i (hD i h1) h1 h2 (fun j _ hjk hw => by
      rcases Nat.lt_or_ge i j with q | q
      · exact absurd hw (h3 j q hjk)
      · exact q)]
    exact (E.still k (by omega) (Nat.le_refl k) (fun j a b => h3 j (by omega) b)).symm
  · rw [(hc x).2 fun i _ hik => h i hik]
    exact (E.still k (Nat.zero_le k) (Nat.le_refl k) (fun j _ b => h j b)).symm

theorem Exch.none : Cons k val W (fun _ => False) (val 0) := fun x => ⟨fun i hi => hi.elim, fun _ => rfl⟩
end

/-! ### Temporaries that are read -/
def X.rd : X → List Nat
  | .t i => [i]
  | .c _ => []
def rdO : Option X → List Nat
  | none => []
  | some x => x.rd
def AOp.rd : AOp → List Nat
  | .mov x | .box _ _ x | .load _ x | .nilc x | .nilq _ x | .not x | .un _ x | .conv _ x | .faddr _ x | .fld _ _ x | .ext x _ | .len _ x => x.rd
  | .pick c a b => c.rd ++ a.rd ++ b.rd
  | .alloc _ _ _ | .lenc _ => []
  | .build _ ps => ps.flatMap fun p => p.2.2.rd
  | .bslice _ _ _ _ ps => ps.flatMap fun p => p.2.2.rd
  | .store _ a x | .bin _ a x | .eq _ _ a x | .iarr _ _ a x | .islc _ a x | .ixa _ _ _ a x | .ixs a x | .app _ _ _ a x | .appz _ _ _ _ a x | .mksl _ _ _ _ a x | .copy _ a x | .cnt a x => a.rd ++ x.rd
  | .mn xs | .mx xs | .call _ xs => xs.flatMap X.rd
  | .mki _ x | .capn x | .i2s x | .b2s x | .mlen x => x.rd
  | .mkf _ fs xs => fs.flatMap X.rd ++ xs.flatMap X.rd
  | .callv x xs | .inv _ x xs => x.rd ++ xs.flatMap X.rd
  | .mkm => []
  | .mget _ _ _ x i | .mdel _ x i | .ment _ _ x i => x.rd ++ i.rd
  | .mput _ x i v | .mest x i v => x.rd ++ i.rd ++ v.rd
  | .bad => []
  | .slstr x lo hi => x.rd ++ rdO lo ++ rdO hi
  | .slice _ x lo hi m3 | .slarr _ _ x lo hi m3 => x.rd ++ rdO lo ++ rdO hi ++ rdO m3

theorem X.ev_same {ts ts2 : List AV} {x : X} (h : ∀ t ∈ x.rd, ts2.getD t (.tup []) = ts.getD t (.tup [])) : x.ev ts2 = x.ev ts := by
  cases x with
  | t i => exact h i (by simp [X.rd])
  | c v => rfl
theorem rdO_same {ts ts2 : List AV} {x : Option X} (h : ∀ t ∈ rdO x, ts2.getD t (.tup []) = ts.getD t (.tup [])) : x.map (·.ev ts2) = x.map (·.ev ts) := by
  cases x with
  | none => rfl
  | some x => simp only [Option.map_some]; rw [X.ev_same h]
theorem list_same {ts ts2 : List AV} {xs : List X} (h : ∀ t ∈ xs.flatMap X.rd, ts2.getD t (.tup []) = ts.getD t (.tup [])) : xs.map (·.ev ts2) = xs.map (·.ev ts) := by
  apply List.map_congr_left
  intro x hx
  exact X.ev_same fun t ht => h t (List.mem_flatMap.2 ⟨x, hx, ht⟩)
theorem parts_same {ts ts2 : List AV} {ps : List (Nat × Nat × X)} (h : ∀ t ∈ ps.flatMap (fun p => p.2.2.rd), ts2.getD t (.tup []) = ts.getD t (.tup [])) :
    (ps.map fun (o, n, x) => (o, n, x.ev ts2)) = ps.map fun (o, n, x) => (o, n, x.ev ts) := by
  apply List.map_congr_left
  intro p hp
  obtain ⟨o, n, x⟩ := p
  simp only
  rw [X.ev_same fun t ht => h t (List.mem_flatMap.2 ⟨(o, n, x), hp, ht⟩)]

theorem opRun_same (call : FuncId → List AV → A AV) {ts ts2 : List AV} {o : AOp} (h : ∀ t ∈ o.rd, ts2.getD t (.tup []) = ts.getD t (.tup [])) : opRun call ts2 o = opRun call ts o := by
  cases o <;> simp only [AOp.rd] at h
  case build z ps => simp only [opRun, parts_same h]
  case bslice ty sz len z ps => simp only [opRun, parts_same h]
  case mn xs => simp only [opRun, list_same h]
  case mx xs => simp only [opRun, list_same h]
  case call f xs => simp only [opRun, list_same h]
  case pick c a b =>
    simp only [List.mem_append] at h
    simp only [opRun, X.ev_same (fun t ht => h t (.inl (.inl ht))), X.ev_same (fun t ht => h t (.inl (.inr ht))), X.ev_same (fun t ht => h t (.inr ht))]
  case alloc => rfl
  case lenc => rfl
  case mkm => rfl
  case bad => rfl
  case mest x i v =>
    simp only [List.mem_append] at h
    simp only [opRun, X.ev_same (fun t ht => h t (.inl (.inl ht))), X.ev_same (fun t ht => h t (.inl (.inr ht))), X.ev_same (fun t ht => h t (.inr ht))]
  case mkf f fs xs =>
    simp only [List.mem_append] at h
    simp only [opRun, list_same (fun t ht => h t (.inl ht)), list_same (fun t ht => h t (.inr ht))]
  case callv x xs =>
    simp only [List.mem_append] at h
    simp only [opRun, X.ev_same (fun t ht => h t (.inl ht)), list_same (fun t ht => h t (.inr ht))]
  case inv rows x xs =>
    simp only [List.mem_append] at h
    simp only [opRun, X.ev_same (fun t ht => h t (.inl ht)), list_same (fun t ht => h t (.inr ht))]
  case mput q x i v =>
    simp only [List.mem_append] at h
    simp only [opRun, X.ev_same (fun t ht => h t (.inl (.inl ht))), X.ev_same (fun t ht => h t (.inl (.inr ht))), X.ev_same (fun t ht => h t (.inr ht))]
  case slstr x lo hi =>
    simp only [List.mem_append] at h
    simp only [opRun, X.ev_same (fun t ht => h t (.inl (.inl ht))), rdO_same (fun t ht => h t (.inl (.inr ht))), rdO_same (fun t ht => h t (.inr ht))]
  case slice sz x lo hi mx =>
    simp only [List.mem_append] at h
    have e1 := X.ev_same (fun t ht => h t (.inl (.inl (.inl ht))))
    have e2 := rdO_same (fun t ht => h t (.inl (.inl (.inr ht))))
    have e3 := rdO_same (fun t ht => h t (.inl (.inr ht)))
    have e4 := rdO_same (fun t ht => h t (.inr ht))
    cases mx with
    | none => simp only [opRun, e1, e2, e3, Option.map_none]
    | some q =>
      simp only [Option.map_some, Option.some.injEq] at e4
      simp only [opRun, e1, e2, e3, e4, Option.map_some]
  case slarr len sz x lo hi mx =>
    simp only [List.mem_append] at h
    simp only [opRun, X.ev_same (fun t ht => h t (.inl (.inl (.inl ht)))), rdO_same (fun t ht => h t (.inl (.inl (.inr ht)))), rdO_same (fun t ht => h t (.inl (.inr ht))), rdO_same (fun t ht => h t (.inr ht))]
  case len b x => cases b <;> simp only [opRun, X.ev_same h]
  all_goals first
    | simp only [opRun, X.ev_same h]
    | (simp only [List.mem_append] at h
       simp only [opRun, X.ev_same (fun t ht => h t (.inl ht)), X.ev_same (fun t ht => h t (.inr ht))])

end Go.Proofs.YtamfoplfbidolaaGreatDoorE

/- Shape: the classes of a tape are right. -/
import Derived.Test.YtahjkhmoojobgaaUn
namespace Go.Proofs.YtahjkhmoojobgaaT
open Go Go.Proofs.YtahjkhmoojobgaaE Go.Proofs.YtahjkhmoojobgaaB
set_option linter.unusedSimpArgs false
set_option linter.unusedVariables false
attribute [local congr] Post_cg PostL_cg condP_cg

def nmF : Nat → ByteArray
  | 0 => ⟨⟨[66, 108, 111, 99, 107]⟩⟩
  | 1 => ⟨⟨[65, 114, 114, 97, 121]⟩⟩
  | 2 => nmc 0
  | 3 => nmc 1
  | 4 => nmc 2
  | _ => ⟨⟨[66, 101, 108, 111, 119]⟩⟩
theorem nmF_ne : ∀ i, i < 6 → ∀ j, j < i → ((nmF j).toList == (nmF i).toList) = false := by decide +kernel
theorem nmF_size : ∀ i, i < 6 → 1 ≤ (nmF i).size ∧ (nmF i).size ≤ 16 := by decide +kernel
/-- A class that is right where it stands. -/
structure Gd (L : List C) (i : Nat) (c : C) : Prop where
  nm : (c.name.size < 1 ∨ 16 < c.name.size) = False
  nd : anyN (L.take i) c = false
  s1 : -1 ≤ c.sup
  s2 : c.sup < i
  f1 : 0 ≤ c.fld
  f2 : c.fld ≤ 62
  sf : c.sup = -1 ∨ ∀ h : c.sup.toNat < L.length, L[c.sup.toNat].fld ≤ c.fld
  b : bindsV c.B 6 9 = true
theorem chainN_down {L : List C} {i : Nat} (hd : Down L i) : ∀ (n : Nat) (k : Int), k < i → i ≤ L.length → -1 ≤ k → ((chainN L n k).length : Int) ≤ k + 1
  | 0, k, _, _, h => by unfold chainN; simp; omega
  | n + 1, k, h, hl, h1 => by
    unfold chainN
    split
    · rename_i hk
      rw [List.length_cons]
      have d := hd k.toNat (by omega) (by omega)
      have := chainN_down hd n (L[k.toNat]'(by omega)).sup (by omega) hl (by omega)
      omega
    · simp; omega
theorem gd_err {L : List C} {i : Nat} (hi : i < L.length) (h8 : i ≤ 7) (hd : Down L i) (g : Gd L i L[i]) : errAt L 6 9 i = 0 := by
  rw [errAt_at hi]
  have n1 : nameBad L i L[i] = false := by
    unfold nameBad
    have := g.nm
    rw [g.nd]
    have h1 : ¬ L[i].name.size < 1 := fun h => by rw [← this]; exact .inl h
    have h2 : ¬ 16 < L[i].name.size := fun h => by rw [← this]; exact .inr h
    simp [h1, h2]
  have s1 : supB L i = true := by
    unfold supB
    rw [List.getElem?_eq_getElem hi]
    have a1 := g.s1
    have a2 := g.s2
    have a3 := g.f1
    have a4 := g.f2
    simp only [a3, a4, a1, a2, decide_true, Bool.true_and]
    by_cases c : L[i].sup = -1
    · rw [c]; rfl
    · have c' : (L[i].sup == -1) = false := beq_eq_false_iff_ne.2 c
      rw [c', Bool.false_or]
      have hs : L[i].sup.toNat < L.length := by omega
      rw [List.getElem?_eq_getElem hs]
      have l1 : (chain L L[i].sup).length < 8 := by
        have := chainN_down hd 8 L[i].sup (by omega) (by omega) (by omega)
        unfold chain
        omega
      have l2 : L[L[i].sup.toNat].fld ≤ L[i].fld := (g.sf.resolve_left c) hs
      simp [l1, l2]
  rw [n1, s1, g.b]
  rfl
theorem errN_zero {L : List C} {n m : Int} : ∀ k, k ≤ L.length → (∀ i, L.length - k ≤ i → i < L.length → errAt L n m i = 0) → errN L n m k = 0
  | 0, _, _ => rfl
  | k + 1, hk, h => by
    rw [errN, h (L.length - (k + 1)) (Nat.le_refl _) (by omega), if_pos rfl]
    exact errN_zero k (by omega) fun i h1 h2 => h i (by omega) h2
theorem errN_first {L : List C} {n m : Int} (e : Int) (j : Nat) (hj : j < L.length) (he : errAt L n m j = e) (h0 : e ≠ 0) : ∀ k, k ≤ L.length → L.length - k ≤ j → (∀ i, i < j → errAt L n m i = 0) → errN L n m k = e
  | 0, _, h, _ => by omega
  | k + 1, hk, h, hz => by
    rw [errN]
    by_cases c : L.length - (k + 1) = j
    · rw [c, he, if_neg h0]
    · rw [hz _ (by omega), if_pos rfl]
      exact errN_first e j hj he h0 k (by omega) (by omega) hz
theorem gd_down {L : List C} : ∀ n, n ≤ L.length → (∀ i (h : i < L.length), i < n → Gd L i L[i]) → Down L n := fun n hn g j hj hi => ⟨(g j hj hi).s1, (g j hj hi).s2⟩
theorem right_gd {L : List C} (h2 : 2 ≤ L.length) (h8 : L.length ≤ 8) (hh : headBad L = false) (g : ∀ i (h : i < L.length), Gd L i L[i]) : rightV L 6 9 = 0 := by
  unfold rightV
  rw [if_neg (by omega), hh, if_neg (by decide)]
  refine errN_zero _ (Nat.le_refl _) fun i _ hi => gd_err hi (by omega) ?_ (g i hi)
  exact gd_down i (by omega) fun j hj _ => g j hj
theorem right_bad {L : List C} (e : Int) (h0 : e ≠ 0) (h2 : 2 ≤ L.length) (h8 : L.length ≤ 8) (hh : headBad L = false) (he : errAt L 6 9 (L.length - 1) = e) (g : ∀ i (h : i < L.length), i < L.length - 1 → Gd L i L[i]) : rightV L 6 9 = e := by
  unfold rightV
  rw [if_neg (by omega), hh, if_neg (by decide)]
  refine errN_first e (L.length - 1) (by omega) he h0 _ (Nat.le_refl _) (by omega) fun i hi => gd_err (by omega) (by omega) ?_ (g i (by omega) hi)
  exact gd_down i (by omega) fun j hj hj' => g j hj (by omega)
theorem KlsF.name {L : List C} (k : KlsF L) (i : Nat) (h : i < L.length) : L[i].name = nmF i := by
  have h5 := k.n5
  by_cases i0 : i = 0
  · subst i0; exact (k.c0 h).1
  · by_cases i1 : i = 1
    · subst i1; exact (k.c1 h).1
    · rw [(k.cs i h (by omega)).1]
      have : i = 2 ∨ i = 3 ∨ i = 4 := by omega
      rcases this with rfl | rfl | rfl <;> rfl
theorem anyN_names {L : List C} {i : Nat} {c : C} (h : ∀ j (hj : j < L.length), j < i → (L[j].name.toList == c.name.toList) = false) : anyN (L.take i) c = false := anyN_f fun y hy => by
  obtain ⟨j, hj, rfl⟩ := List.mem_iff_getElem.1 hy
  rw [List.length_take] at hj
  rw [List.getElem_take]
  exact h j (by omega) (by omega)
/-- Each class of a tape's is right, in whatever is begun by them. -/
theorem KlsF.gd {L : List C} (k : KlsF L) (R : List C) (i : Nat) (h : i < L.length) (hR : ∀ j (hj : j < L.length), j ≤ i → ∃ h' : j < R.length, R[j] = L[j]) : Gd R i L[i] := by
  have h5 := k.n5
  have nm := k.name i h
  have sz := nmF_size i (by omega)
  refine ⟨?_, ?_, ?_, ?_, ?_, ?_, ?_, (k.b _ (List.getElem_mem h)).1⟩
  · rw [nm]; simp only [eq_iff_iff, iff_false]; omega
  · refine anyN_names fun j hj hji => ?_
    obtain ⟨h', e⟩ := hR j (by omega) (by omega)
    rw [e, k.name j (by omega), nm]
    exact nmF_ne i (by omega) j hji
  all_goals
    by_cases i0 : i = 0
    · subst i0
      have q := k.c0 h
      simp only [q.2.1, q.2.2]
      first | omega | exact .inl rfl | exact .inl trivial
    · by_cases i1 : i = 1
      · subst i1
        have q := k.c1 h
        simp only [q.2.1, q.2.2]
        first | omega | exact .inl rfl | exact .inl trivial
      · obtain ⟨_, q2, q3, q4⟩ := k.cs i h (by omega)
        first
        | omega
        | (rcases q4 with q4 | ⟨q4, q5, q6⟩
           · exact .inl q4
           · refine .inr fun hr => ?_
             obtain ⟨h', e⟩ := hR L[i].sup.toNat (by omega) (by omega)
             rw [e]
             exact q6 (by omega))
theorem KlsF.head {L : List C} (k : KlsF L) (R : List C) (hR : ∀ j (hj : j < L.length), j < 2 → ∃ h' : j < R.length, R[j] = L[j]) (h2 : 2 ≤ R.length) : headBad R = false := by
  have h3 := k.n3
  rw [headBad_at h2]
  obtain ⟨_, e0⟩ := hR 0 (by omega) (by omega)
  obtain ⟨_, e1⟩ := hR 1 (by omega) (by omega)
  rw [e0, e1]
  have q0 := k.c0 (by omega)
  have q1 := k.c1 (by omega)
  rw [q0.2.1, q0.2.2, q1.2.1, q1.2.2]
  decide
theorem KlsF.right {L : List C} (k : KlsF L) : rightV L 6 9 = 0 := by
  have h3 := k.n3
  have h5 := k.n5
  exact right_gd (by omega) (by omega) (k.head L (fun j hj _ => ⟨hj, rfl⟩) (by omega)) fun i h => k.gd L i h fun j hj _ => ⟨hj, rfl⟩
theorem KlsF.fld_le {L : List C} (k : KlsF L) (i : Nat) (h : i < L.length) : L[i].fld ≤ 40 := by
  have h5 := k.n5
  by_cases i0 : i = 0
  · subst i0; rw [(k.c0 h).2.2]; decide
  · by_cases i1 : i = 1
    · subst i1; rw [(k.c1 h).2.2]; decide
    · have := (k.cs i h (by omega)).2.2.1
      omega
theorem KlsF.down {L : List C} (k : KlsF L) : Down L L.length := gd_down _ (Nat.le_refl _) fun i h _ => k.gd L i h fun j hj _ => ⟨hj, rfl⟩
/-- Fields along a chain. -/
theorem chain_fld {L : List C} (k : KlsF L) : ∀ (n : Nat) (i : Int) (h0 : 0 ≤ i) (hi : i < L.length) (x : Int), x ∈ chainN L n i → ∃ (h0 : 0 ≤ x) (h : x.toNat < L.length), L[x.toNat].fld ≤ (L[i.toNat]'(by omega)).fld
  | 0, i, h0, hi, x, hx => by unfold chainN at hx; cases hx
  | n + 1, i, h0, hi, x, hx => by
    unfold chainN at hx
    rw [dif_pos ⟨h0, hi⟩] at hx
    rcases List.mem_cons.1 hx with rfl | hx
    · exact ⟨h0, by omega, Int.le_refl _⟩
    · by_cases c : 0 ≤ (L[i.toNat]'(by omega)).sup
      · have d := (k.down i.toNat (by omega) (by omega)).2
        obtain ⟨a, b, e⟩ := chain_fld k n _ c (by omega) x hx
        refine ⟨a, b, ?_⟩
        have : (L[(L[i.toNat]'(by omega)).sup.toNat]'(by omega)).fld ≤ (L[i.toNat]'(by omega)).fld := by
          have g := (k.gd L i.toNat (by omega) fun j hj _ => ⟨hj, rfl⟩).sf
          exact g.resolve_left (by omega) _
        omega
      · cases n with
        | zero => unfold chainN at hx; cases hx
        | succ n => unfold chainN at hx; rw [dif_neg (by omega)] at hx; cases hx
/-- A chain goes on with the super's. -/
theorem chain_sup {L : List C} (k : KlsF L) (i : Nat) (hi : i < L.length) : chain L i = (i : Int) :: chain L L[i].sup := by
  have h5 := k.n5
  have d := k.down i hi hi
  unfold chain
  rw [chainN, dif_pos ⟨by omega, by omega⟩]
  simp only [Int.toNat_natCast]
  congr 1
  exact chain_down k.down (Nat.le_refl _) 7 _ (by omega) (by omega)
end Go.Proofs.YtahjkhmoojobgaaT

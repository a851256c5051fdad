/- Dict: DictBounded. -/
import Derived.Test.YtadenjdkknakgaaG
import Derived.Test.YtadenjdkknakgaaOf8
namespace Go.Proofs.YtadenjdkknakgaaT
open Go Go.Proofs.YtadenjdkknakgaaE Go.Proofs.YtadenjdkknakgaaB
set_option linter.unusedSimpArgs false
set_option linter.unusedVariables false
attribute [local congr] Post_cg PostL_cg condP_cg

/-! ### A map of names -/
def mi : List (Int × Int) → List AV
  | [] => []
  | e :: r => .int .i64 e.1 :: .int .i64 e.2 :: mi r
def fI (s : Int) : List (Int × Int) → Nat → Option (Nat × Int)
  | [], _ => none
  | e :: r, o => match s == e.1 with
    | true => some (o, e.2)
    | false => fI s r (o + 2)
def gI (s : Int) : List (Int × Int) → Option Int
  | [] => none
  | e :: r => match s == e.1 with
    | true => some e.2
    | false => gI s r
def pI (s i : Int) : List (Int × Int) → List (Int × Int)
  | [] => [(s, i)]
  | e :: r => match s == e.1 with
    | true => (s, i) :: r
    | false => e :: pI s i r
theorem mi_app : ∀ (M N : List (Int × Int)), mi (M ++ N) = mi M ++ mi N
  | [], N => rfl
  | e :: r, N => by simp only [List.cons_append, mi]; rw [mi_app r N]
theorem mi_len : ∀ M : List (Int × Int), (mi M).length = 2 * M.length
  | [] => rfl
  | e :: r => by simp only [mi, List.length_cons]; rw [mi_len r]; omega
theorem mi_at : ∀ (M : List (Int × Int)) (i : Nat) {kk vv : AV}, (mi M)[2 * i]? = some kk → (mi M)[2 * i + 1]? = some vv → ∃ e ∈ M, kk = .int .i64 e.1 ∧ vv = .int .i64 e.2
  | [], i, kk, vv, h, _ => by simp [mi] at h
  | e :: r, 0, kk, vv, h, g => by
    simp [mi] at h g
    exact ⟨e, by simp, h.symm, g.symm⟩
  | e :: r, i + 1, kk, vv, h, g => by
    rw [show 2 * (i + 1) = 2 * i + 1 + 1 by omega] at h g
    simp only [mi, List.getElem?_cons_succ] at h g
    obtain ⟨x, hx, q⟩ := mi_at r i h g
    exact ⟨x, by simp [hx], q⟩
theorem find_i (s : Int) : ∀ (M : List (Int × Int)) (o : Nat), findA .i (.int .i64 s) (mi M) o = some ((fI s M o).map fun p => (p.1, .int .i64 p.2))
  | [], o => rfl
  | e :: r, o => by
    have ih := find_i s r (o + 2)
    unfold mi findA fI
    simp only [eqA, eqI]
    cases h : s == e.1 with
    | true => simp_all
    | false => simp_all
theorem f_gI (s : Int) : ∀ (M : List (Int × Int)) (o : Nat), (fI s M o).map (·.2) = gI s M
  | [], o => rfl
  | e :: r, o => by
    have ih := f_gI s r (o + 2)
    unfold fI gI
    cases s == e.1 with
    | true => rfl
    | false => exact ih
theorem p_noneI (s i : Int) : ∀ (M : List (Int × Int)) (o : Nat), fI s M o = none → pI s i M = M ++ [(s, i)]
  | [], o, _ => rfl
  | e :: r, o, h => by
    unfold fI at h
    unfold pI
    cases he : s == e.1 with
    | true => rw [he] at h; cases h
    | false => rw [he] at h; simp only at h ⊢; rw [p_noneI s i r (o + 2) h]; rfl
theorem p_someI (s i : Int) : ∀ (M : List (Int × Int)) (o j : Nat) (v : Int), fI s M o = some (j, v) → o ≤ j ∧ (mi M)[j - o]? = some (.int .i64 s) ∧ (mi M).set (j - o + 1) (.int .i64 i) = mi (pI s i M)
  | [], o, j, v, h => by cases h
  | e :: r, o, j, v, h => by
    unfold fI at h
    unfold pI
    cases he : s == e.1 with
    | true =>
      rw [he] at h; cases h
      have := beq_iff_eq.1 he
      simp [mi, this]
    | false =>
      rw [he] at h; simp only at h ⊢
      obtain ⟨h1, h2, h3⟩ := p_someI s i r (o + 2) j v h
      refine ⟨by omega, ?_, ?_⟩
      · rw [show j - o = (j - (o + 2)) + 1 + 1 by omega]
        simp only [mi, List.getElem?_cons_succ]; exact h2
      · rw [show j - o + 1 = (j - (o + 2) + 1) + 1 + 1 by omega]
        simp only [mi, List.set_cons_succ]; rw [h3]
theorem pI_len (s i : Int) : ∀ M : List (Int × Int), (pI s i M).length = M.length + (match gI s M with | none => 1 | some _ => 0)
  | [] => rfl
  | e :: r => by
    unfold pI gI
    cases s == e.1 with
    | true => rfl
    | false => simp only [List.length_cons]; rw [pI_len s i r]; omega
theorem gI_mem {s v : Int} : ∀ {M : List (Int × Int)}, gI s M = some v → (s, v) ∈ M
  | [], h => by cases h
  | e :: r, h => by
    unfold gI at h
    cases he : s == e.1 with
    | true => rw [he] at h; cases h; rw [beq_iff_eq.1 he]; simp
    | false => rw [he] at h; exact List.mem_cons_of_mem _ (gI_mem h)
/-- Each entry is one that was, or the new one; the old one of that name is gone. -/
theorem pI_mem {s i : Int} : ∀ {M : List (Int × Int)}, (M.map (·.1)).Nodup → ∀ e ∈ pI s i M, e = (s, i) ∨ (e ∈ M ∧ e.1 ≠ s)
  | [], _, e, h => by simp [pI] at h; exact .inl h
  | x :: r, hn, e, h => by
    have hn' : x.1 ∉ r.map (·.1) ∧ (r.map (·.1)).Nodup := List.nodup_cons.1 hn
    unfold pI at h
    cases he : s == x.1 with
    | true =>
      rw [he] at h
      have hx := beq_iff_eq.1 he
      rcases List.mem_cons.1 h with h | h
      · exact .inl h
      · exact .inr ⟨List.mem_cons_of_mem _ h, fun e1 => hn'.1 (by rw [← hx, ← e1]; exact List.mem_map.2 ⟨e, h, rfl⟩)⟩
    | false =>
      rw [he] at h
      rcases List.mem_cons.1 h with h | h
      · subst h
        exact .inr ⟨by simp, fun e1 => by rw [e1] at he; simp at he⟩
      · rcases pI_mem hn'.2 e h with h | ⟨h1, h2⟩
        · exact .inl h
        · exact .inr ⟨List.mem_cons_of_mem _ h1, h2⟩
theorem pI_keys (s i : Int) : ∀ (M : List (Int × Int)) {k : Int}, k ∈ (pI s i M).map (·.1) → k = s ∨ k ∈ M.map (·.1)
  | [], k, h => by simp [pI] at h; exact .inl h
  | x :: r, k, h => by
    unfold pI at h
    cases he : s == x.1 with
    | true =>
      rw [he] at h
      simp only [List.map_cons, List.mem_cons] at h
      rcases h with h | h
      · exact .inl h
      · exact .inr (by simp only [List.map_cons, List.mem_cons]; exact .inr h)
    | false =>
      rw [he] at h
      simp only [List.map_cons, List.mem_cons] at h
      rcases h with h | h
      · exact .inr (by simp [h])
      · rcases pI_keys s i r h with h | h
        · exact .inl h
        · exact .inr (by simp only [List.map_cons, List.mem_cons]; exact .inr h)
theorem pI_nodup (s i : Int) : ∀ {M : List (Int × Int)}, (M.map (·.1)).Nodup → ((pI s i M).map (·.1)).Nodup
  | [], _ => by simp [pI]
  | x :: r, hn => by
    have hn' : x.1 ∉ r.map (·.1) ∧ (r.map (·.1)).Nodup := List.nodup_cons.1 hn
    unfold pI
    cases he : s == x.1 with
    | true =>
      have hx := beq_iff_eq.1 he
      exact List.nodup_cons.2 ⟨by rw [hx]; exact hn'.1, hn'.2⟩
    | false =>
      refine List.nodup_cons.2 ⟨fun h => ?_, pI_nodup s i hn'.2⟩
      rcases pI_keys s i r h with h | h
      · have h : x.1 = s := h
        rw [h] at he; simp at he
      · exact hn'.1 h

/-! ### Find behind Put -/
theorem fnd_n (P : List Pl) (s : Int) : ∀ m, m ≤ 4 → 1 ≤ (fnd P s m).2 ∧ (fnd P s m).2 ≤ 4
  | 0, _ => by simp [fnd]
  | m + 1, h => by
    have ih := fnd_n P s m (by omega)
    unfold fnd
    split
    · simp only; omega
    · split
      · simp only; omega
      · exact ih
theorem putf_at (P : List Pl) (s v : Int) : ∀ m P', putf P s v m = some P' → ∃ j, P' = P.set j (some (s, v)) ∧ (P.getD j none = none ∨ ∃ v', P.getD j none = some (s, v'))
  | 0, _, e => by cases e
  | m + 1, P', e => by
    unfold putf at e
    split at e
    · rename_i h; cases e; exact ⟨_, rfl, .inl h⟩
    · rename_i s' v' h
      split at e
      · rename_i c; cases e; subst c; exact ⟨_, rfl, .inr ⟨v', h⟩⟩
      · exact putf_at P s v m P' e
theorem getD_set_ne {P : List Pl} {i j : Nat} (x : Pl) (h : i ≠ j) : (P.set i x).getD j none = P.getD j none := by
  rw [List.getD_eq_getElem?_getD, List.getD_eq_getElem?_getD, List.getElem?_set_ne h]
theorem getD_set_same {P : List Pl} {i : Nat} (x : Pl) (h : i < P.length) : (P.set i x).getD i none = x := by
  rw [List.getD_eq_getElem?_getD, List.getElem?_set_self h]; rfl
/-- The others are found as before. -/
theorem fnd_other {P P' : List Pl} {s v : Int} {m0 : Nat} (h : putf P s v m0 = some P') {s' : Int} (hs : s' ≠ s) : ∀ m i n, i ≠ -1 → fnd P s' m = (i, n) → fnd P' s' m = (i, n)
  | 0, i, n, hi, e => by simp only [fnd] at e; cases e; exact absurd rfl hi
  | m + 1, i, n, hi, e => by
    obtain ⟨j, rfl, hj⟩ := putf_at P s v m0 P' h
    unfold fnd at e ⊢
    cases hg : P.getD (pl s' (3 - m)) none with
    | none => rw [hg] at e; simp only at e; cases e; exact absurd rfl hi
    | some q =>
      obtain ⟨s2, v2⟩ := q
      rw [hg] at e
      simp only at e
      by_cases c : j = pl s' (3 - (m : Int))
      · subst c
        have h2 : s2 = s := by
          rcases hj with hj | ⟨v', hj⟩
          · rw [hj] at hg; cases hg
          · rw [hj] at hg; cases hg; rfl
        subst h2
        rw [if_neg (Ne.symm hs)] at e
        have ih := fnd_other h hs m i n hi e
        by_cases hl : pl s' (3 - (m : Int)) < P.length
        · rw [getD_set_same _ hl]
          simp only
          rw [if_neg (Ne.symm hs)]
          exact ih
        · rw [List.set_eq_of_length_le (by omega), hg]
          simp only
          rw [if_neg (Ne.symm hs)]
          rw [List.set_eq_of_length_le (by omega)] at ih
          exact ih
      · rw [getD_set_ne _ c, hg]
        simp only
        split at e
        · rename_i c2; rw [if_pos c2]; exact e
        · rename_i c2; rw [if_neg c2]; exact fnd_other h hs m i n hi e
/-- What was put is found. -/
theorem fnd_put {P : List Pl} (hP : P.length = 16) {s v : Int} (hs : 0 ≤ s) : ∀ m P', m ≤ 4 → putf P s v m = some P' → ∃ n, fnd P' s m = (v, n)
  | 0, _, _, e => by cases e
  | m + 1, P', hm, e => by
    obtain ⟨i0, i1⟩ := px_in s (3 - m) hs (by omega)
    have hl : pl s (3 - (m : Int)) < P.length := by rw [hP]; unfold pl; omega
    unfold putf at e
    cases hg : P.getD (pl s (3 - m)) none with
    | none =>
      rw [hg] at e; simp only at e; cases e
      refine ⟨4 - (m : Int), ?_⟩
      unfold fnd
      rw [getD_set_same _ hl]
      simp only [if_true]
    | some q =>
      obtain ⟨s2, v2⟩ := q
      rw [hg] at e; simp only at e
      by_cases c : s2 = s
      · rw [if_pos c] at e; cases e
        refine ⟨4 - (m : Int), ?_⟩
        unfold fnd
        rw [getD_set_same _ hl]
        simp only [if_true]
      · rw [if_neg c] at e
        obtain ⟨n, ih⟩ := fnd_put hP hs m P' (by omega) e
        refine ⟨n, ?_⟩
        obtain ⟨j, rfl, hj⟩ := putf_at P s v m P' e
        have hne : j ≠ pl s (3 - (m : Int)) := fun e2 => by
          rw [e2] at hj
          rcases hj with hj | ⟨v', hj⟩
          · rw [hj] at hg; cases hg
          · rw [hj] at hg; cases hg; exact c rfl
        unfold fnd
        rw [getD_set_ne _ hne, hg]
        simp only
        rw [if_neg c]
        exact ih
/-- How many there are then: one more, if it was not found. -/
theorem cnt_put {P : List Pl} (hP : P.length = 16) {s v : Int} (hs : 0 ≤ s) : ∀ m P', m ≤ 4 → putf P s v m = some P' → ∃ j, j < P.length ∧ P' = P.set j (some (s, v)) ∧
    ((∃ i n, P.getD j none = some (s, i) ∧ cnt P' = cnt P ∧ fnd P s m = (i, n)) ∨ (P.getD j none = none ∧ cnt P' = cnt P + 1 ∧ ∃ n, fnd P s m = (-1, n)))
  | 0, _, _, e => by cases e
  | m + 1, P', hm, e => by
    obtain ⟨i0, i1⟩ := px_in s (3 - m) hs (by omega)
    have hl : pl s (3 - (m : Int)) < P.length := by rw [hP]; unfold pl; omega
    have cs := cnt_set hl (s, v)
    have hgd : P.getD (pl s (3 - m)) none = P[pl s (3 - (m : Int))] := by rw [List.getD_eq_getElem?_getD, List.getElem?_eq_getElem hl]; rfl
    unfold putf at e
    unfold fnd
    cases hg : P.getD (pl s (3 - m)) none with
    | none =>
      rw [hg] at e; simp only at e; cases e
      rw [← hgd, hg] at cs
      exact ⟨_, hl, rfl, .inr ⟨hg, cs, _, rfl⟩⟩
    | some q =>
      obtain ⟨s2, v2⟩ := q
      rw [hg] at e; simp only at e ⊢
      by_cases c : s2 = s
      · rw [if_pos c] at e; cases e
        rw [← hgd, hg] at cs
        subst c
        rw [if_pos rfl]
        exact ⟨_, hl, rfl, .inl ⟨_, _, hg, cs, rfl⟩⟩
      · rw [if_neg c] at e ⊢
        exact cnt_put hP hs m P' (by omega) e
/-- Where there is no room, it is not found. -/
theorem putf_none {P : List Pl} {s v : Int} : ∀ m, putf P s v m = none → ∃ n, fnd P s m = (-1, n)
  | 0, _ => ⟨4, rfl⟩
  | m + 1, e => by
    unfold putf at e
    unfold fnd
    cases hg : P.getD (pl s (3 - m)) none with
    | none => rw [hg] at e; cases e
    | some q =>
      obtain ⟨s2, v2⟩ := q
      rw [hg] at e; simp only at e ⊢
      by_cases c : s2 = s
      · rw [if_pos c] at e; cases e
      · rw [if_neg c] at e ⊢
        exact putf_none m e

/-- What is so behind each round. -/
structure Bd (P : List Pl) (M : List (Int × Int)) : Prop where
  ok : Okp P
  nd : (M.map (·.1)).Nodup
  pos : ∀ e ∈ M, 0 ≤ e.1 ∧ 0 ≤ e.2
  fd : ∀ e ∈ M, ∃ n, fnd P e.1 4 = (e.2, n)
  ct : cnt P = M.length
  pl : ∀ j s i, P.getD j none = some (s, i) → (s, i) ∈ M
  uq : ∀ j j' s i i', P.getD j none = some (s, i) → P.getD j' none = some (s, i') → j = j'
theorem empty_at (j : Nat) : empty.getD j none = none := by
  unfold empty
  rw [List.getD_eq_getElem?_getD]
  cases h : (List.replicate 16 (none : Pl))[j]? with
  | none => rfl
  | some x => exact List.eq_of_mem_replicate (List.mem_of_getElem? h)
theorem Bd.nil : Bd empty [] := ⟨empty_ok, List.nodup_nil, (fun e h => nomatch h), (fun e h => nomatch h), rfl, (fun j s i h => by rw [empty_at] at h; cases h), (fun j j' s i i' h => by rw [empty_at] at h; cases h)⟩
theorem pI_keep {s i : Int} : ∀ {M : List (Int × Int)} {e : Int × Int}, e ∈ M → e.1 ≠ s → e ∈ pI s i M
  | [], e, h, _ => nomatch h
  | x :: r, e, h, hs => by
    unfold pI
    cases he : s == x.1 with
    | true =>
      rcases List.mem_cons.1 h with rfl | h
      · exact absurd (beq_iff_eq.1 he).symm hs
      · exact List.mem_cons_of_mem _ h
    | false =>
      rcases List.mem_cons.1 h with rfl | h
      · simp
      · exact List.mem_cons_of_mem _ (pI_keep h hs)
theorem pI_new (s i : Int) : ∀ (M : List (Int × Int)), (s, i) ∈ pI s i M
  | [] => by simp [pI]
  | x :: r => by
    unfold pI
    cases s == x.1 with
    | true => simp
    | false => exact List.mem_cons_of_mem _ (pI_new s i r)
theorem gI_none {s : Int} : ∀ {M : List (Int × Int)}, gI s M = none → ∀ v, (s, v) ∉ M
  | [], _, v, h => nomatch h
  | x :: r, g, v, h => by
    unfold gI at g
    cases he : s == x.1 with
    | true => rw [he] at g; cases g
    | false =>
      rw [he] at g
      rcases List.mem_cons.1 h with h | h
      · rw [← h] at he; simp at he
      · exact gI_none g v h
theorem Bd.no {P : List Pl} {M : List (Int × Int)} (b : Bd P M) {s v : Int} (hs : 0 ≤ s) (h : putP P s v = none) : gI s M = none := by
  unfold putP at h
  rw [if_neg (by omega)] at h
  obtain ⟨n, hn⟩ := putf_none 4 h
  cases hg : gI s M with
  | none => rfl
  | some i =>
    have hm := gI_mem hg
    obtain ⟨n', hn'⟩ := b.fd _ hm
    have hp := b.pos _ hm
    rw [hn] at hn'
    simp only [Prod.mk.injEq] at hn'
    omega
theorem Bd.yes {P P' : List Pl} {M : List (Int × Int)} (b : Bd P M) {s v : Int} (hs : 0 ≤ s) (hv : 0 ≤ v) (h : putP P s v = some P') : Bd P' (pI s v M) := by
  unfold putP at h
  rw [if_neg (by omega)] at h
  have hP := b.ok.len
  have ok' := putf_ok b.ok s v hs 4 P' h
  obtain ⟨j, hl, hj, hc⟩ := cnt_put hP hs 4 P' (by omega) h
  obtain ⟨n0, f0⟩ := fnd_put hP hs 4 P' (by omega) h
  -- is it there?
  have key : (cnt P' = cnt P ∧ (∃ i, gI s M = some i) ∧ ∃ i', P.getD j none = some (s, i')) ∨ (cnt P' = cnt P + 1 ∧ gI s M = none ∧ ∀ j' i', P.getD j' none ≠ some (s, i')) := by
    rcases hc with ⟨i, n, g1, c1, f1⟩ | ⟨g1, c1, n, f1⟩
    · left
      refine ⟨c1, ?_, i, g1⟩
      cases hg : gI s M with
      | none => exact absurd (b.pl _ _ _ g1) (gI_none hg i)
      | some i => exact ⟨i, rfl⟩
    · right
      have no : ∀ v', (s, v') ∉ M := fun v' hm => by
        obtain ⟨n', hn'⟩ := b.fd _ hm
        have hp := b.pos _ hm
        simp only at hn' hp
        rw [f1] at hn'
        simp only [Prod.mk.injEq] at hn'
        omega
      refine ⟨c1, ?_, fun j' i' h' => no i' (b.pl _ _ _ h')⟩
      cases hg : gI s M with
      | none => rfl
      | some i => exact absurd (gI_mem hg) (no i)
  -- where a name is behind it
  have at' : ∀ j' s' i', P'.getD j' none = some (s', i') → (j' = j ∧ s' = s ∧ i' = v) ∨ (j' ≠ j ∧ P.getD j' none = some (s', i')) := fun j' s' i' h' => by
    by_cases c : j = j'
    · subst c
      rw [hj, getD_set_same _ hl] at h'
      cases h'; exact .inl ⟨rfl, rfl, rfl⟩
    · rw [hj, getD_set_ne _ c] at h'
      exact .inr ⟨Ne.symm c, h'⟩
  have one : ∀ j' i', j' ≠ j → P.getD j' none ≠ some (s, i') := fun j' i' hne h' => by
    rcases key with ⟨_, _, i2, g2⟩ | ⟨_, _, no⟩
    · exact hne (b.uq _ _ _ _ _ h' g2)
    · exact no j' i' h'
  refine ⟨ok', pI_nodup s v b.nd, fun e he => ?_, fun e he => ?_, ?_, fun j' s' i' h' => ?_, fun j1 j2 s' i1 i2 h1 h2 => ?_⟩
  · rcases pI_mem b.nd e he with rfl | ⟨he, _⟩
    · exact ⟨hs, hv⟩
    · exact b.pos e he
  · rcases pI_mem b.nd e he with rfl | ⟨he, hne⟩
    · exact ⟨n0, f0⟩
    · obtain ⟨n, hn⟩ := b.fd e he
      exact ⟨n, fnd_other h hne 4 e.2 n (by have := (b.pos e he).2; omega) hn⟩
  · rw [pI_len, ← b.ct]
    rcases key with ⟨c1, ⟨i, hi⟩, _⟩ | ⟨c1, hg, _⟩
    · simp [c1, hi]
    · simp [c1, hg]
  · rcases at' j' s' i' h' with ⟨_, rfl, rfl⟩ | ⟨hne, h2⟩
    · exact pI_new s' i' M
    · exact pI_keep (b.pl _ _ _ h2) fun e => one j' i' hne (by rw [← e]; exact h2)
  · rcases at' j1 s' i1 h1 with ⟨e1, e2, _⟩ | ⟨hne, g1⟩ <;> rcases at' j2 s' i2 h2 with ⟨e3, e4, _⟩ | ⟨hne2, g2⟩
    · rw [e1, e3]
    · exact absurd (by rw [← e2]; exact g2) (one j2 i2 hne2)
    · exact absurd (by rw [← e4]; exact g1) (one j1 i1 hne)
    · exact b.uq _ _ _ _ _ g1 g2
end Go.Proofs.YtadenjdkknakgaaT

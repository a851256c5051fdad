/- Cache: a map of keys; what lines have of it. -/
import Derived.Test.YthiiegkjbglflaaLines
namespace Go.Proofs.YthiiegkjbglflaaT
open Go Go.Proofs.YthiiegkjbglflaaE Go.Proofs.YthiiegkjbglflaaB
set_option linter.unusedSimpArgs false
set_option linter.unusedVariables false

structure Ent where
  c : Int
  s : Int
  v : Int
def Ent.is (e : Ent) (c s : Int) : Bool := c == e.c && s == e.s
def mc : List Ent → List AV
  | [] => []
  | e :: r => .agg [.int .i64 e.c, .int .i64 e.s] :: .int .i64 e.v :: mc r
def fM (c s : Int) : List Ent → Nat → Option (Nat × Int)
  | [], _ => none
  | e :: r, o => match e.is c s with
    | true => some (o, e.v)
    | false => fM c s r (o + 2)
def gM (c s : Int) : List Ent → Option Int
  | [] => none
  | e :: r => match e.is c s with
    | true => some e.v
    | false => gM c s r
def pM (c s i : Int) : List Ent → List Ent
  | [] => [⟨c, s, i⟩]
  | e :: r => match e.is c s with
    | true => ⟨c, s, i⟩ :: r
    | false => e :: pM c s i r
theorem mc_app : ∀ (M N : List Ent), mc (M ++ N) = mc M ++ mc N
  | [], N => rfl
  | e :: r, N => by simp only [List.cons_append, mc]; rw [mc_app r N]
theorem mc_len : ∀ M : List Ent, (mc M).length = 2 * M.length
  | [] => rfl
  | e :: r => by simp only [mc, List.length_cons]; rw [mc_len r]; omega
theorem find_m (c s : Int) : ∀ (M : List Ent) (o : Nat), findA (.st [(0, 1, .i), (1, 1, .i)]) (.agg [.int .i64 c, .int .i64 s]) (mc M) o = some ((fM c s M o).map fun p => (p.1, .int .i64 p.2))
  | [], o => rfl
  | e :: r, o => by
    have ih := find_m c s r (o + 2)
    unfold mc findA fM
    rw [eA_i2]
    unfold Ent.is
    cases (c == e.c && s == e.s) with
    | true => rfl
    | false => exact ih
theorem f_g (c s : Int) : ∀ (M : List Ent) (o : Nat), (fM c s M o).map (·.2) = gM c s M
  | [], o => rfl
  | e :: r, o => by
    have ih := f_g c s r (o + 2)
    unfold fM gM
    cases e.is c s with
    | true => rfl
    | false => exact ih
theorem p_none (c s i : Int) : ∀ (M : List Ent) (o : Nat), fM c s M o = none → pM c s i M = M ++ [⟨c, s, i⟩]
  | [], o, _ => rfl
  | e :: r, o, h => by
    unfold fM at h
    unfold pM
    cases he : e.is c s with
    | true => rw [he] at h; cases h
    | false => rw [he] at h; simp only; rw [p_none c s i r (o + 2) h]; rfl
theorem p_some (c s i : Int) : ∀ (M : List Ent) (o j : Nat) (v : Int), fM c s M o = some (j, v) → o ≤ j ∧ (mc M)[j - o]? = some (.agg [.int .i64 c, .int .i64 s]) ∧ (mc M).set (j - o + 1) (.int .i64 i) = mc (pM c s i M)
  | [], o, j, v, h => by cases h
  | e :: r, o, j, v, h => by
    unfold fM at h
    unfold pM
    cases he : e.is c s with
    | true =>
      rw [he] at h
      cases h
      unfold Ent.is at he
      rw [Bool.and_eq_true, beq_iff_eq, beq_iff_eq] at he
      refine ⟨Nat.le_refl _, ?_, ?_⟩
      · rw [Nat.sub_self]; simp [mc, he.1, he.2]
      · rw [Nat.sub_self]; simp [mc, he.1, he.2]
    | false =>
      rw [he] at h
      obtain ⟨h1, h2, h3⟩ := p_some c s i r (o + 2) j v h
      have e1 : j - o = j - (o + 2) + 2 := by omega
      refine ⟨by omega, ?_, ?_⟩
      · rw [e1]; simpa [mc] using h2
      · rw [e1]; simpa [mc] using h3
theorem g_same (c s i : Int) : ∀ M : List Ent, gM c s (pM c s i M) = some i
  | [] => by unfold pM gM Ent.is; simp
  | e :: r => by
    unfold pM
    cases he : e.is c s with
    | true => unfold gM Ent.is; simp
    | false => simp only; unfold gM; rw [he]; exact g_same c s i r
theorem g_ne (c s i c' s' : Int) (h : ¬ (c' = c ∧ s' = s)) : ∀ M : List Ent, gM c' s' (pM c s i M) = gM c' s' M
  | [] => by
    have : (c' == c && s' == s) = false := by simpa using h
    unfold pM gM Ent.is
    simp only [this]
    rfl
  | e :: r => by
    unfold pM
    cases he : e.is c s with
    | true =>
      unfold Ent.is at he
      rw [Bool.and_eq_true, beq_iff_eq, beq_iff_eq] at he
      have h1 : (c' == c && s' == s) = false := by simpa using h
      have h2 : e.is c' s' = false := by unfold Ent.is; rw [← he.1, ← he.2]; exact h1
      unfold gM
      simp only [h2]
      unfold Ent.is
      simp only [h1]
    | false =>
      simp only
      unfold gM
      rw [g_ne c s i c' s' h r]
theorem g_mem (c s v : Int) : ∀ M : List Ent, gM c s M = some v → (c, s) ∈ M.map fun e => (e.c, e.s)
  | [], h => by cases h
  | e :: r, h => by
    unfold gM at h
    cases he : e.is c s with
    | true =>
      unfold Ent.is at he
      rw [Bool.and_eq_true, beq_iff_eq, beq_iff_eq] at he
      simp [he.1, he.2]
    | false =>
      rw [he] at h
      exact List.mem_cons_of_mem _ (g_mem c s v r h)
/-- What is in the lines was put last. -/
def Inv (L : List Ln) (M : List Ent) : Prop := L.length = 32 ∧ ∀ (i : Nat) (h : i < L.length), L[i].u = true → li L[i].c L[i].s = i ∧ gM L[i].c L[i].s M = some L[i].m
theorem Inv.put {L : List Ln} {M : List Ent} (v : Inv L M) (c s i : Int) : Inv (putL L c s i) (pM c s i M) := by
  obtain ⟨hl, h⟩ := v
  refine ⟨putL_len hl c s i, ?_⟩
  unfold putL
  intro j hj hu
  rw [List.length_set] at hj
  by_cases e : li c s = j
  · subst e
    rw [List.getElem_set_self]
    have e2 := li_lt c s
    exact ⟨rfl, g_same c s i M⟩
  · rw [List.getElem_set_ne e] at hu ⊢
    obtain ⟨h1, h2⟩ := h j hj hu
    refine ⟨h1, ?_⟩
    rw [g_ne, h2]
    rintro ⟨e1, e2⟩
    rw [e1, e2] at h1
    exact e h1
theorem inv_empty : Inv empty [] := by
  refine ⟨rfl, fun i h hu => ?_⟩
  have : empty[i] = ⟨false, 0, 0, 0⟩ := List.getElem_replicate ..
  rw [this] at hu
  cases hu
theorem Inv.got {L : List Ln} {M : List Ent} (v : Inv L M) (c s : Int) (h : hitL L c s = true) : gM c s M = some (getL L c s).m := by
  obtain ⟨hi, e⟩ := getL_at v.1 c s
  unfold hitL at h
  simp only [Bool.and_eq_true, beq_iff_eq] at h
  obtain ⟨hu, hc, hs⟩ := h
  have := (v.2 _ hi (by rw [e]; exact hu)).2
  rw [e, hc, hs] at this
  exact this
theorem Inv.few {L : List Ln} {M : List Ent} (v : Inv L M) : usedL L ≤ M.length := by
  unfold usedL
  have hp : L.Pairwise fun x y => x.u = true → y.u = true → (x.c, x.s) ≠ (y.c, y.s) := by
    rw [List.pairwise_iff_getElem]
    intro i j hi hj hij ui uj e
    have a := (v.2 i hi ui).1
    have b := (v.2 j hj uj).1
    injection e with e1 e2
    rw [e1, e2] at a
    omega
  have hn : ((L.filter (·.u)).map fun x => (x.c, x.s)).Nodup := by
    rw [List.Nodup, List.pairwise_map]
    have h2 := hp.filter (fun x => x.u)
    refine h2.imp_of_mem fun {x y} hx hy h => h ?_ ?_
    · exact (List.mem_filter.1 hx).2
    · exact (List.mem_filter.1 hy).2
  have hs : ∀ p ∈ (L.filter (·.u)).map (fun x => (x.c, x.s)), p ∈ M.map fun e => (e.c, e.s) := by
    intro p hp
    rw [List.mem_map] at hp
    obtain ⟨x, hx, rfl⟩ := hp
    obtain ⟨hx, hu⟩ := List.mem_filter.1 hx
    obtain ⟨i, hi, rfl⟩ := List.mem_iff_getElem.1 hx
    exact g_mem _ _ _ _ (v.2 i hi hu).2
  have := List.Nodup.length_le_of_subset hn hs
  rw [List.length_map, List.length_map] at this
  exact this
end Go.Proofs.YthiiegkjbglflaaT

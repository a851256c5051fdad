/- Frame: the reference's pool: one place changed. -/
import Derived.Test.YtobcboiemibkkaaRef
namespace Go.Proofs.YtobcboiemibkkaaT
open Go Go.Proofs.YtobcboiemibkkaaE Go.Proofs.YtobcboiemibkkaaB
set_option linter.unusedSimpArgs false
set_option linter.unusedVariables false
attribute [local congr] Post_cg PostL_cg condP_cg

theorem RPS.row {h h' : Mem} {nx nx' w : Nat} {F : List Fr} {U : List Bool} {s s' : Int} {A B : List (List Int)} {X : List (List AV)} {R : List (AV × AV)} (r : RPS h nx w F U s A B X R) {i : Nat} (hi : i < R.length) (u : Bool) (f : Fr) (a b : List Int) (ra rb : AV) (hn : nx ≤ nx')
    (hb : ∃ t, h'.blk w = some ⟨t, 217, true, false, rcells (X.set i (rf u f (ra, rb))) s'⟩) (oa : u = true → OR ra h' nx' a) (ob : u = true → OR rb h' nx' b)
    (e : ∀ q, q < nx → q ≠ w → (U[i]? = some true → bid R[i].1 ≠ some q ∧ bid R[i].2 ≠ some q) → h'.blk q = h.blk q)
    (na : u = true → ∀ q, bid ra = some q → (U[i]? = some true ∧ bid R[i].1 = some q) ∨ nx ≤ q) (nb : u = true → ∀ q, bid rb = some q → (U[i]? = some true ∧ bid R[i].2 = some q) ∨ nx ≤ q) (nn : u = true → ∀ q, bid ra = some q → bid rb ≠ some q) :
    RPS h' nx' w (F.set i f) (U.set i u) s' (A.set i a) (B.set i b) (X.set i (rf u f (ra, rb))) (R.set i (ra, rb)) := by
  have hR := r.hR
  have hU := r.hU
  have hF := r.hF
  have hA := r.hA
  have hB := r.hB
  have hX := r.x9.n
  have old : ∀ j (h1 : j < R.length) q, j ≠ i → U[j]? = some true → (bid R[j].1 = some q ∨ bid R[j].2 = some q) → q < nx ∧ q ≠ w ∧ (U[i]? = some true → bid R[i].1 ≠ some q ∧ bid R[i].2 ≠ some q) := fun j h1 q hj hu hq => by
    have own : ROwn U R q := ⟨j, h1, hu, hq⟩
    refine ⟨r.lt (.inr own), fun e => r.nw (by rw [← e]; exact own), fun hui => ?_⟩
    have := r.d1 j i h1 hi q hj hu hui hq
    exact ⟨fun h => this (.inl h), fun h => this (.inr h)⟩
  have new : u = true → ∀ q, (bid ra = some q ∨ bid rb = some q) → (U[i]? = some true ∧ (bid R[i].1 = some q ∨ bid R[i].2 = some q)) ∨ nx ≤ q := fun hu q hq => by
    rcases hq with hq | hq
    · rcases na hu q hq with ⟨h1, h2⟩ | h
      · exact .inl ⟨h1, .inl h2⟩
      · exact .inr h
    · rcases nb hu q hq with ⟨h1, h2⟩ | h
      · exact .inl ⟨h1, .inr h2⟩
      · exact .inr h
  have apart : ∀ j (h1 : j < R.length) q, j ≠ i → U[j]? = some true → (bid R[j].1 = some q ∨ bid R[j].2 = some q) → u = true → ¬ (bid ra = some q ∨ bid rb = some q) := fun j h1 q hj hu hq hu' hq' => by
    obtain ⟨g1, g2, g3⟩ := old j h1 q hj hu hq
    rcases new hu' q hq' with ⟨k1, k2⟩ | h
    · obtain ⟨k3, k4⟩ := g3 k1
      rcases k2 with k2 | k2
      · exact k3 k2
      · exact k4 k2
    · omega
  have un : ∀ j, j ≠ i → (U.set i u)[j]? = U[j]? := fun j hj => List.getElem?_set_ne (Ne.symm hj)
  have ui : (U.set i u)[i]? = some u := List.getElem?_set_self (by omega)
  have rl : rf u f (ra, rb) = rf u f (ra, rb) ∧ (rf u f (ra, rb)).length = 9 := ⟨rfl, by cases u <;> rfl⟩
  refine ⟨hb, by have := r.hw; omega, r.x9.set i _ rl.2, by rw [List.length_set]; exact hR, by rw [List.length_set]; exact hU, by rw [List.length_set]; exact hF, by rw [List.length_set]; exact hA, by rw [List.length_set]; exact hB, fun j h1 h2 h3 h4 => ?_, fun j h1 h2 hu => ?_, fun j h1 h2 hu => ?_, ?_, fun j k h1 h2 q hjk hu hv hq => ?_, fun j h1 q hu hq => ?_⟩
  · by_cases c : j = i
    · subst c
      simp only [List.getElem_set_self]
    · simp only [List.getElem_set_ne (Ne.symm c)]
      exact r.fr j _ _ _ _
  · by_cases c : j = i
    · subst c
      rw [ui] at hu
      simp only [List.getElem_set_self]
      exact oa (by simpa using hu)
    · rw [un j c] at hu
      simp only [List.getElem_set_ne (Ne.symm c)]
      rw [List.length_set] at h1 h2
      exact (r.rA j h1 h2 hu).keep hn fun q hq => by
        obtain ⟨g1, g2, g3⟩ := old j h1 q c hu (.inl hq)
        exact e q g1 g2 g3
  · by_cases c : j = i
    · subst c
      rw [ui] at hu
      simp only [List.getElem_set_self]
      exact ob (by simpa using hu)
    · rw [un j c] at hu
      simp only [List.getElem_set_ne (Ne.symm c)]
      rw [List.length_set] at h1 h2
      exact (r.rB j h1 h2 hu).keep hn fun q hq => by
        obtain ⟨g1, g2, g3⟩ := old j h1 q c hu (.inr hq)
        exact e q g1 g2 g3
  · rintro ⟨j, h1, hu, hq⟩
    by_cases c : j = i
    · subst c
      rw [ui] at hu
      simp only [List.getElem_set_self] at hq
      rcases new (by simpa using hu) w hq with ⟨k1, k2⟩ | k
      · exact r.nw ⟨j, hi, k1, k2⟩
      · have := r.hw; omega
    · rw [un j c] at hu
      simp only [List.getElem_set_ne (Ne.symm c)] at hq
      rw [List.length_set] at h1
      exact r.nw ⟨j, h1, hu, hq⟩
  · rw [List.length_set] at h1 h2
    by_cases c : j = i
    · subst c
      rw [ui] at hu
      rw [un k (Ne.symm hjk)] at hv
      simp only [List.getElem_set_self, List.getElem_set_ne hjk] at hq ⊢
      exact fun hq' => apart k (by simpa using h2) q (Ne.symm hjk) hv hq' (by simpa using hu) hq
    · rw [un j c] at hu
      by_cases c2 : k = i
      · subst c2
        rw [ui] at hv
        simp only [List.getElem_set_self, List.getElem_set_ne (Ne.symm c)] at hq ⊢
        exact apart j (by simpa using h1) q c hu hq (by simpa using hv)
      · rw [un k c2] at hv
        simp only [List.getElem_set_ne (Ne.symm c), List.getElem_set_ne (Ne.symm c2)] at hq ⊢
        exact r.d1 j k h1 h2 q hjk hu hv hq
  · rw [List.length_set] at h1
    by_cases c : j = i
    · subst c
      rw [ui] at hu
      simp only [List.getElem_set_self] at hq ⊢
      exact nn (by simpa using hu) q hq
    · rw [un j c] at hu
      simp only [List.getElem_set_ne (Ne.symm c)] at hq ⊢
      exact r.d2 j h1 q hu hq
end Go.Proofs.YtobcboiemibkkaaT

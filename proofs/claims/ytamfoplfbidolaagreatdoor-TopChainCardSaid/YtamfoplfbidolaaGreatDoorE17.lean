/- The engine, part 17: a region whose order is open. -/
import Derived.Test.YtamfoplfbidolaaGreatDoorE16
namespace Go.Proofs.YtamfoplfbidolaaGreatDoorE
open Go Go.RowKit
set_option linter.unusedVariables false
set_option linter.unusedSimpArgs false

/-- The states ahead of each operation, in the order of the text. -/
structure St where
  ts : List AV
  h : Mem
  n : Nat
  tc : Nat
  wr : Nat
def trail (call : FuncId → List AV → A AV) : List AR → List AV → Mem → Nat → List St
  | [], ts, h, n => [⟨ts, h, n, 0, 0⟩]
  | r :: rs, ts, h, n => match stepR call ts r h n n with
    | none => []
    | some s => ⟨ts, h, n, s.tc, s.wr⟩ :: trail call rs (putT ts r.dst s.v) s.h s.nx

def St.dflt : St := ⟨[], Mem.empty, 0, 0, 0⟩
def at_ (l : List St) (i : Nat) : St := l.getD i St.dflt

theorem trail_at {call : FuncId → List AV → A AV} : ∀ (rs : List AR) (ts : List AV) (h : Mem) (n : Nat) (q : Rs (List AV)) (l : List (Nat × Nat)), regLog call rs ts h n = some (q, l) →
    at_ (trail call rs ts h n) 0 = ⟨ts, h, n, (at_ (trail call rs ts h n) 0).tc, (at_ (trail call rs ts h n) 0).wr⟩ ∧
    (at_ (trail call rs ts h n) rs.length).ts = q.v ∧ (at_ (trail call rs ts h n) rs.length).h = q.h ∧ (at_ (trail call rs ts h n) rs.length).n = q.nx ∧ l.length = rs.length ∧
    ∀ i r, rs[i]? = some r → ∃ s, stepR call (at_ (trail call rs ts h n) i).ts r (at_ (trail call rs ts h n) i).h (at_ (trail call rs ts h n) i).n (at_ (trail call rs ts h n) i).n = some s ∧
      s.tc = (at_ (trail call rs ts h n) i).tc ∧ s.wr = (at_ (trail call rs ts h n) i).wr ∧ (at_ (trail call rs ts h n) (i + 1)).ts = putT (at_ (trail call rs ts h n) i).ts r.dst s.v ∧ (at_ (trail call rs ts h n) (i + 1)).h = s.h ∧ (at_ (trail call rs ts h n) (i + 1)).n = s.nx ∧
      l[i]? = some (s.tc ||| (2 ^ s.nx - 2 ^ (at_ (trail call rs ts h n) i).n), s.wr ||| (2 ^ s.nx - 2 ^ (at_ (trail call rs ts h n) i).n))
  | [], ts, h, n, q, l, e => by
    simp only [regLog] at e; cases e
    exact ⟨rfl, rfl, rfl, rfl, rfl, fun i r hr => by simp at hr⟩
  | r :: rs, ts, h, n, q, l, e => by
    obtain ⟨s, q', l', e1, e2, rfl, rfl⟩ := regLog_inv e
    obtain ⟨i1, i2, i3, i4, i5, i6⟩ := trail_at rs _ s.h s.nx q' l' e2
    have ht : trail call (r :: rs) ts h n = ⟨ts, h, n, s.tc, s.wr⟩ :: trail call rs (putT ts r.dst s.v) s.h s.nx := by
      simp only [trail, e1]
    rw [ht]
    have hs : ∀ i, at_ (⟨ts, h, n, s.tc, s.wr⟩ :: trail call rs (putT ts r.dst s.v) s.h s.nx) (i + 1) = at_ (trail call rs (putT ts r.dst s.v) s.h s.nx) i := fun i => by unfold at_; simp
    have h0 : at_ (⟨ts, h, n, s.tc, s.wr⟩ :: trail call rs (putT ts r.dst s.v) s.h s.nx) 0 = ⟨ts, h, n, s.tc, s.wr⟩ := rfl
    refine ⟨by rw [h0], by rw [List.length_cons, hs]; exact i2, by rw [List.length_cons, hs]; exact i3, by rw [List.length_cons, hs]; exact i4, by simp [i5], fun i r' hr' => ?_⟩
    cases i with
    | zero =>
      simp at hr'; subst hr'
      rw [hs, i1, h0]
      exact ⟨s, e1, rfl, rfl, rfl, rfl, rfl, by simp⟩
    | succ i =>
      simp at hr'
      obtain ⟨s', k⟩ := i6 i r' hr'
      refine ⟨s', ?_⟩
      rw [hs, hs]
      simpa using k

theorem apartFrom_at {b : Nat} {tw : Nat × Nat} : ∀ {k : Nat} {l : List (Nat × Nat)}, apartFrom b tw k l = true → ∀ i x, l[i]? = some x → b.testBit (k + i) = false → x.2 &&& tw.1 = 0 ∧ x.1 &&& tw.2 = 0
  | k, [], h, i, x, hx, _ => by simp at hx
  | k, (t, w) :: r, h, i, x, hx, hb => by
    simp only [apartFrom, Bool.and_eq_true, Bool.or_eq_true] at h
    cases i with
    | zero =>
      simp at hx; subst hx
      rcases h.1 with h1 | h1
      · rw [Nat.add_zero] at hb; rw [hb] at h1; cases h1
      · exact ⟨Nat.eq_of_beq_eq_true h1.1, Nat.eq_of_beq_eq_true h1.2⟩
    | succ i =>
      simp at hx
      exact apartFrom_at h.2 i x hx (by rw [← hb]; congr 1; omega)

theorem allApart_at : ∀ {done : List (Nat × Nat)} {bs : List Nat} {l : List (Nat × Nat)}, allApart done bs l = true → ∀ j x, l[j]? = some x → ∀ i y, (done ++ l)[i]? = some y → i < done.length + j → (bs.getD j 0).testBit i = false →
    y.2 &&& x.1 = 0 ∧ y.1 &&& x.2 = 0
  | done, bs, [], h, j, x, hx, _, _, _, _, _ => by simp at hx
  | done, [], z :: r, h, j, x, hx, _, _, _, _, _ => by simp [allApart] at h
  | done, b :: bs, z :: r, h, j, x, hx, i, y, hy, hij, hb => by
    simp only [allApart, Bool.and_eq_true] at h
    cases j with
    | zero =>
      simp at hx; subst hx
      have hi : done[i]? = some y := by rw [List.getElem?_append_left (by omega)] at hy; exact hy
      exact apartFrom_at h.1 i y hi (by simpa using hb)
    | succ j =>
      simp at hx
      exact allApart_at h.2 j x hx i y (by simpa using hy) (by simp; omega) (by simpa using hb)

theorem tmpsFrom_at {b : Nat} {rj : AR} : ∀ {k : Nat} {l : List AR}, tmpsFrom b rj k l = true → ∀ i x, l[i]? = some x → b.testBit (k + i) = false → x.clash rj = false ∧ rj.clash x = false
  | k, [], h, i, x, hx, _ => by simp at hx
  | k, z :: r, h, i, x, hx, hb => by
    simp only [tmpsFrom, Bool.and_eq_true, Bool.or_eq_true] at h
    cases i with
    | zero =>
      simp at hx; subst hx
      rcases h.1 with h1 | h1
      · rw [Nat.add_zero] at hb; rw [hb] at h1; cases h1
      · simpa using h1
    | succ i =>
      simp at hx
      exact tmpsFrom_at h.2 i x hx (by rw [← hb]; congr 1; omega)
theorem tmpsOk_at : ∀ {done : List AR} {bs : List Nat} {l : List AR}, tmpsOk done bs l = true → ∀ j x, l[j]? = some x → ∀ i y, (done ++ l)[i]? = some y → i < done.length + j → (bs.getD j 0).testBit i = false →
    y.clash x = false ∧ x.clash y = false
  | done, bs, [], h, j, x, hx, _, _, _, _, _ => by simp at hx
  | done, [], z :: r, h, j, x, hx, _, _, _, _, _ => by simp [tmpsOk] at h
  | done, b :: bs, z :: r, h, j, x, hx, i, y, hy, hij, hb => by
    simp only [tmpsOk, Bool.and_eq_true] at h
    cases j with
    | zero =>
      simp at hx; subst hx
      have hi : done[i]? = some y := by rw [List.getElem?_append_left (by omega)] at hy; exact hy
      exact tmpsFrom_at h.1 i y hi (by simpa using hb)
    | succ j =>
      simp at hx
      exact tmpsOk_at h.2 j x hx i y (by simpa using hy) (by simp; omega) (by simpa using hb)

theorem upBits_at {bef : List Nat} : ∀ {es : List Edge} {j : Nat}, (upBits bef es).testBit j = true → ∃ e ∈ es, Region.binds .any e = true ∧ (j = e.on ∨ (bef.getD e.on 0).testBit j = true)
  | [], j, h => by simp [upBits] at h
  | e :: es, j, h => by
    simp only [upBits] at h
    split at h
    · rename_i hb
      simp only [Nat.testBit_or, Bool.or_eq_true, Nat.testBit_two_pow] at h
      rcases h with (h | h) | h
      · exact ⟨e, by simp, hb, .inl (of_decide_eq_true h).symm⟩
      · exact ⟨e, by simp, hb, .inr h⟩
      · obtain ⟨e', h1, h2⟩ := upBits_at h
        exact ⟨e', by simp [h1], h2⟩
    · obtain ⟨e', h1, h2⟩ := upBits_at h
      exact ⟨e', by simp [h1], h2⟩
theorem edgesOk_at {bef : List Nat} : ∀ {k : Nat} {os : List Oper}, edgesOk bef k os = true → ∀ i o, os[i]? = some o →
    (∀ j, (bef.getD (k + i) 0).testBit j = true → (upBits bef o.after.toList).testBit j = true) ∧ ∀ e ∈ o.after.toList, Region.binds .any e = true → e.on < k + i
  | k, [], h, i, o, ho => by simp at ho
  | k, z :: os, h, i, o, ho => by
    simp only [edgesOk, Bool.and_eq_true] at h
    cases i with
    | zero =>
      simp at ho; subst ho
      refine ⟨fun j hj => ?_, fun e he hb => ?_⟩
      · rw [← Nat.eq_of_beq_eq_true h.1.1, Nat.testBit_or, Nat.add_zero] at *
        rw [hj]; rfl
      · have := List.all_eq_true.1 h.1.2 e he
        rw [hb] at this
        simp only [Bool.not_true, Bool.false_or] at this
        have := blt_lt this
        omega
    | succ i =>
      simp at ho
      obtain ⟨a, b⟩ := edgesOk_at h.2 i o ho
      refine ⟨fun j hj => a j (by rw [← hj]; congr 2; omega), fun e he hb => ?_⟩
      have := b e he hb; omega

theorem stepR_same (call : FuncId → List AV → A AV) {ts ts2 : List AV} {r : AR} (h : ∀ t ∈ r.rd, ts2.getD t (.tup []) = ts.getD t (.tup [])) : stepR call ts2 r = stepR call ts r := by
  unfold AR.rd at h
  simp only [List.mem_append] at h
  unfold stepR
  have hg : wantA ts2 r.guard = wantA ts r.guard := by
    cases e : r.guard with
    | none => rfl
    | some q =>
      obtain ⟨t, want⟩ := q
      simp only [wantA]
      rw [h t (.inl (by rw [e]; simp))]
  rw [hg, opRun_same call fun t ht => h t (.inr ht)]

end Go.Proofs.YtamfoplfbidolaaGreatDoorE

/- The engine, part 14: footprints of regions and of code. -/
import Derived.Test.YtamfoplfbidolaaGreatDoorE13
namespace Go.Proofs.YtamfoplfbidolaaGreatDoorE
open Go Go.RowKit
set_option linter.unusedVariables false
set_option linter.unusedSimpArgs false

theorem Foot.step {call : FuncId → List AV → A AV} (hc : ∀ f xs, Foot (call f xs)) (ts : List AV) (r : AR) : Foot (stepR call ts r) := by
  unfold stepR
  split
  · exact Foot.op hc ts r.op
  · exact Foot.ret _

theorem Foot.reg {call : FuncId → List AV → A AV} (hc : ∀ f xs, Foot (call f xs)) : ∀ (rs : List AR) (ts : List AV), Foot (regRun call rs ts)
  | [], ts => Foot.ret ts
  | r :: rs, ts => by
    unfold regRun
    exact Foot.bind (Foot.step hc ts r) fun v => Foot.reg hc rs _

/-- A region whose order is open, once: what each operation touched. -/
structure LogR (call : FuncId → List AV → A AV) (rs : List AR) (ts : List AV) (h : Mem) (n : Nat) (q : Rs (List AV)) (l : List (Nat × Nat)) : Prop where
  le : n ≤ q.nx
  frame : ∀ b, b < n → q.wr.testBit b = false → q.h.blk b = h.blk b
  above : ∀ b, q.nx ≤ b → q.h.blk b = h.blk b
  sub : ∀ b, q.wr.testBit b = true → q.tc.testBit b = true
  low : ∀ b, q.tc.testBit b = true → b < q.nx
  again : ∀ h2 : Mem, (∀ b, Tch n q.nx q.tc b → h2.blk b = h.blk b) →
    ∃ h2', regLog call rs ts h2 n = some (⟨q.v, h2', q.nx, q.tc, q.wr⟩, l) ∧ (∀ b, Tch n q.nx q.tc b → h2'.blk b = q.h.blk b) ∧ (∀ b, ¬ Tch n q.nx q.tc b → h2'.blk b = h2.blk b)

theorem regLog_inv {call : FuncId → List AV → A AV} {r : AR} {rs : List AR} {ts : List AV} {h : Mem} {n : Nat} {q : Rs (List AV)} {l : List (Nat × Nat)} (e : regLog call (r :: rs) ts h n = some (q, l)) :
    ∃ s q' l', stepR call ts r h n n = some s ∧ regLog call rs (putT ts r.dst s.v) s.h s.nx = some (q', l') ∧ q = ⟨q'.v, q'.h, q'.nx, s.tc ||| q'.tc, s.wr ||| q'.wr⟩ ∧ l = (s.tc ||| (2 ^ s.nx - 2 ^ n), s.wr ||| (2 ^ s.nx - 2 ^ n)) :: l' := by
  simp only [regLog] at e
  split at e
  · cases e
  · rename_i s hs
    split at e
    · cases e
    · rename_i q' l' hq
      cases e
      exact ⟨s, q', l', hs, hq, rfl, rfl⟩

theorem log_foot {call : FuncId → List AV → A AV} (hc : ∀ f xs, Foot (call f xs)) : ∀ (rs : List AR) (ts : List AV) (h : Mem) (n : Nat) (q : Rs (List AV)) (l : List (Nat × Nat)), regLog call rs ts h n = some (q, l) → LogR call rs ts h n q l
  | [], ts, h, n, q, l, e => by
    simp only [regLog] at e; cases e
    exact ⟨Nat.le_refl _, fun _ _ _ => rfl, fun _ _ => rfl, fun b hb => by simp at hb, fun b hb => by simp at hb, fun h2 ha => ⟨h2, rfl, ha, fun _ _ => rfl⟩⟩
  | r :: rs, ts, h, n, q, l, e => by
    obtain ⟨s, q', l', e1, e2, rfl, rfl⟩ := regLog_inv e
    have F1 := Foot.step hc ts r h n n s (Nat.le_refl n) e1
    have F2 := log_foot hc rs _ s.h s.nx q' l' e2
    have lowS : ∀ b, s.tc.testBit b = true → b < n := F1.low
    refine ⟨Nat.le_trans F1.le F2.le, fun b hb hw => ?_, fun b hb => ?_, fun b hb => ?_, fun b hb => ?_, fun h2 ha => ?_⟩
    · simp only [Nat.testBit_or, Bool.or_eq_false_iff] at hw
      rw [F2.frame b (Nat.lt_of_lt_of_le hb F1.le) hw.2, F1.frame b hb hw.1]
    · rw [F2.above b hb, F1.above b (Nat.le_trans F2.le hb)]
    · simp only [Nat.testBit_or, Bool.or_eq_true] at hb ⊢
      rcases hb with hb | hb
      · exact .inl (F1.sub b hb)
      · exact .inr (F2.sub b hb)
    · simp only [Nat.testBit_or, Bool.or_eq_true] at hb
      have h1 := F1.le
      have h2 := F2.le
      rcases hb with hb | hb
      · have := lowS b hb; simp only; omega
      · exact F2.low b hb
    · have sub1 : ∀ b, Tch n s.nx s.tc b → Tch n q'.nx (s.tc ||| q'.tc) b := fun b hb => by
        rcases hb with hb | hb
        · exact .inl ⟨hb.1, Nat.lt_of_lt_of_le hb.2 F2.le⟩
        · exact .inr (by rw [Nat.testBit_or, hb]; rfl)
      have sub2 : ∀ b, Tch s.nx q'.nx q'.tc b → Tch n q'.nx (s.tc ||| q'.tc) b := fun b hb => by
        rcases hb with hb | hb
        · exact .inl ⟨Nat.le_trans F1.le hb.1, hb.2⟩
        · exact .inr (by rw [Nat.testBit_or, hb, Bool.or_true])
      obtain ⟨h3, g1, g2, g3⟩ := F1.again h2 (fun b hb => ha b (sub1 b hb))
      have mid : ∀ b, Tch s.nx q'.nx q'.tc b → h3.blk b = s.h.blk b := fun b hb => by
        by_cases h1 : Tch n s.nx s.tc b
        · exact g2 b h1
        · rw [g3 b h1, ha b (sub2 b hb)]
          rcases Nat.lt_or_ge b n with hlt | hge
          · refine (F1.frame b hlt ?_).symm
            cases hw : s.wr.testBit b with
            | false => rfl
            | true => exact absurd (.inr (F1.sub b hw)) h1
          · refine (F1.above b ?_).symm
            rcases Nat.lt_or_ge b s.nx with w | w
            · exact absurd (.inl ⟨hge, w⟩) h1
            · exact w
      obtain ⟨h4, k1, k2, k3⟩ := F2.again h3 mid
      refine ⟨h4, ?_, fun b hb => ?_, fun b hb => ?_⟩
      · simp only [regLog, g1, k1]
      · by_cases h2' : Tch s.nx q'.nx q'.tc b
        · exact k2 b h2'
        · rw [k3 b h2']
          have h1 : Tch n s.nx s.tc b := by
            rcases hb with hb | hb
            · rcases Nat.lt_or_ge b s.nx with w | w
              · exact .inl ⟨hb.1, w⟩
              · exact absurd (.inl ⟨w, hb.2⟩) h2'
            · rw [Nat.testBit_or, Bool.or_eq_true] at hb
              rcases hb with hb | hb
              · exact .inr hb
              · exact absurd (.inr hb) h2'
          rw [g2 b h1]
          rcases Nat.lt_or_ge b s.nx with hlt | hge
          · refine (F2.frame b hlt ?_).symm
            cases hw : q'.wr.testBit b with
            | false => rfl
            | true => exact absurd (.inr (F2.sub b hw)) h2'
          · refine (F2.above b ?_).symm
            rcases Nat.lt_or_ge b q'.nx with w | w
            · exact absurd (.inl ⟨hge, w⟩) h2'
            · exact w
      · rw [k3 b (fun w => hb (sub2 b w)), g3 b (fun w => hb (sub1 b w))]

theorem lowBits_test (lg m b : Nat) : (lowBits lg m).testBit b = (decide (b < lg) && m.testBit b) := by
  unfold lowBits; exact Nat.testBit_mod_two_pow ..

theorem Foot.draw {call : FuncId → List AV → A AV} (hc : ∀ f xs, Foot (call f xs)) (rs : List AR) (bef : List Nat) (ts : List AV) : Foot (regDraw call rs bef ts) := by
  intro h n lg r hl e
  unfold regDraw at e
  split at e
  · cases e
  · rename_i q l hq
    split at e
    · rename_i hap
      cases e
      have F := log_foot hc rs ts h n q l hq
      have hT : ∀ b, Tch n q.nx q.tc b → Tch lg q.nx (lowBits lg q.tc) b := fun b hb => by
        rcases hb with hb | hb
        · exact .inl ⟨Nat.le_trans hl hb.1, hb.2⟩
        · rcases Nat.lt_or_ge b lg with w | w
          · exact .inr (by rw [lowBits_test, hb]; simp [w])
          · exact .inl ⟨w, F.low b hb⟩
      have hin : ∀ b, Tch lg q.nx (lowBits lg q.tc) b → ¬ Tch n q.nx q.tc b → q.h.blk b = h.blk b := fun b hb hn => by
        refine F.frame b ?_ ?_
        · rcases hb with hb | hb
          · rcases Nat.lt_or_ge b n with w | w
            · exact w
            · exact absurd (.inl ⟨w, hb.2⟩) hn
          · rw [lowBits_test] at hb
            simp only [Bool.and_eq_true, decide_eq_true_eq] at hb
            omega
        · cases hw : q.wr.testBit b with
          | false => rfl
          | true => exact absurd (.inr (F.sub b hw)) hn
      refine ⟨F.le, fun b hb hw => ?_, F.above, fun b hb => ?_, fun b hb => ?_, fun h2 ha => ?_⟩
      · simp only at hw ⊢
        rw [lowBits_test] at hw
        exact F.frame b (Nat.lt_of_lt_of_le hb hl) (by simpa [hb] using hw)
      · simp only at hb ⊢
        rw [lowBits_test, Bool.and_eq_true] at hb ⊢
        exact ⟨hb.1, F.sub b hb.2⟩
      · simp only at hb
        rw [lowBits_test, Bool.and_eq_true] at hb
        exact of_decide_eq_true hb.1
      · simp only at ha ⊢
        obtain ⟨h3, g1, g2, g3⟩ := F.again h2 (fun b hb => ha b (hT b hb))
        refine ⟨h3, ?_, fun b hb => ?_, fun b hb => ?_⟩
        · unfold regDraw
          simp only [g1, hap]
        · by_cases w : Tch n q.nx q.tc b
          · exact g2 b w
          · rw [g3 b w, ha b hb, hin b hb w]
        · exact g3 b (fun w => hb (hT b w))
    · cases e

theorem Foot.res (ts : List AV) (r : ARes) : Foot (resA ts r) := by
  unfold resA
  repeat' first
    | exact Foot.ret _
    | exact Foot.fail
    | exact Foot.rd _
    | exact Foot.ofOpt _
    | (refine Foot.bind ?_ (fun _ => ?_))
    | split
theorem Foot.resAll (ts : List AV) : ∀ rs : List ARes, Foot (resAll ts rs)
  | [] => Foot.ret _
  | r :: rs => by
    unfold Go.Proofs.YtamfoplfbidolaaGreatDoorE.resAll
    exact Foot.bind (Foot.res ts r) fun v => Foot.bind (Foot.resAll ts rs) fun vs => Foot.ret _

theorem Foot.code (T : FuncId → Option AF) : ∀ (n : Nat) (c : AC) (ts : List AV), Foot (xC T n c ts)
  | 0, c, ts => by unfold xC; exact Foot.fail
  | n + 1, c, ts => by
    have ih := Foot.code T n
    have hcall : ∀ f args, Foot (match T f with
      | none => A.fail
      | some F => A.bind (xC T n F.body (args ++ List.replicate (F.nt - args.length) (.tup []))) fun r => match r.1 with
        | .exit _ => A.fail
        | _ => A.bind (Go.Proofs.YtamfoplfbidolaaGreatDoorE.resAll r.2 F.res) fun vs => A.ret (oneOf vs)) := by
      intro f args
      split
      · exact Foot.fail
      · refine Foot.bind (ih _ _) fun r => ?_
        split
        · exact Foot.fail
        · exact Foot.bind (Foot.resAll _ _) fun _ => Foot.ret _
    cases c with
    | skip => unfold xC; exact Foot.ret _
    | reg rs dr bef =>
      unfold xC
      simp only
      split
      · exact Foot.bind (Foot.reg hcall rs ts) fun _ => Foot.ret _
      · exact Foot.bind (Foot.draw hcall rs bef ts) fun _ => Foot.ret _
    | seq a b =>
      unfold xC
      refine Foot.bind (ih _ _) fun r => ?_
      split
      · exact ih _ _
      · exact Foot.ret _
    | cond x a b =>
      unfold xC
      split
      · exact ih _ _
      · exact ih _ _
      · exact Foot.fail
    | blk id c =>
      unfold xC
      refine Foot.bind (ih _ _) fun r => ?_
      split
      · split <;> exact Foot.ret _
      · exact Foot.ret _
    | loop c =>
      unfold xC
      refine Foot.bind (ih _ _) fun r => ?_
      split
      · exact ih _ _
      · exact Foot.ret _
    | exit id => unfold xC; exact Foot.ret _
    | ret => unfold xC; exact Foot.ret _

theorem Foot.fn (T : FuncId → Option AF) (n : Nat) (f : FuncId) (args : List AV) : Foot (xF T n f args) := by
  unfold xF
  split
  · exact Foot.fail
  · refine Foot.bind (Foot.code T n _ _) fun r => ?_
    split
    · exact Foot.fail
    · exact Foot.bind (Foot.resAll _ _) fun _ => Foot.ret _

end Go.Proofs.YtamfoplfbidolaaGreatDoorE

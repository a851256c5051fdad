/- The engine, part 13: what a run touches: a run over another memory that is the same where it touches goes the same way. -/
import Derived.Test.YtamfoplfbidolaaGreatDoorE12
namespace Go.Proofs.YtamfoplfbidolaaGreatDoorE
open Go Go.RowKit
set_option linter.unusedVariables false
set_option linter.unusedSimpArgs false

/-- Blocks that a run touched, or made. -/
def Tch (lg nx tc b : Nat) : Prop := (lg ≤ b ∧ b < nx) ∨ tc.testBit b = true

structure FootR {α : Type} (x : A α) (h : Mem) (n lg : Nat) (r : Rs α) : Prop where
  le : n ≤ r.nx
  frame : ∀ b, b < lg → r.wr.testBit b = false → r.h.blk b = h.blk b
  above : ∀ b, r.nx ≤ b → r.h.blk b = h.blk b
  sub : ∀ b, r.wr.testBit b = true → r.tc.testBit b = true
  low : ∀ b, r.tc.testBit b = true → b < lg
  again : ∀ h2 : Mem, (∀ b, Tch lg r.nx r.tc b → h2.blk b = h.blk b) →
    ∃ h2', x h2 n lg = some ⟨r.v, h2', r.nx, r.tc, r.wr⟩ ∧ (∀ b, Tch lg r.nx r.tc b → h2'.blk b = r.h.blk b) ∧ (∀ b, ¬ Tch lg r.nx r.tc b → h2'.blk b = h2.blk b)
def Foot {α : Type} (x : A α) : Prop := ∀ h n lg r, lg ≤ n → x h n lg = some r → FootR x h n lg r

theorem Foot.ret {α : Type} (v : α) : Foot (A.ret v) := by
  intro h n lg r hl e
  have e1 := A.ret_inv e; subst e1
  exact ⟨Nat.le_refl _, fun _ _ _ => rfl, fun _ _ => rfl, fun b hb => by simp at hb, fun b hb => by simp at hb, fun h2 ha => ⟨h2, rfl, ha, fun _ _ => rfl⟩⟩
theorem Foot.fail {α : Type} : Foot (A.fail : A α) := fun h n lg r hl e => by simp [A.fail] at e
theorem Foot.ofOpt {α : Type} (o : Option α) : Foot (A.ofOpt o) := by
  cases o with
  | none => exact Foot.fail
  | some v => exact Foot.ret v

theorem Foot.bind {α β : Type} {x : A α} {f : α → A β} (hx : Foot x) (hf : ∀ a, Foot (f a)) : Foot (A.bind x f) := by
  intro h n lg r hl e
  obtain ⟨r1, r2, e1, e2, rfl⟩ := A.bind_inv e
  have F1 := hx h n lg r1 hl e1
  have hl2 : lg ≤ r1.nx := Nat.le_trans hl F1.le
  have F2 := hf r1.v r1.h r1.nx lg r2 hl2 e2
  refine ⟨Nat.le_trans F1.le F2.le, fun b hb hw => ?_, fun b hb => ?_, fun b hb => ?_, fun b hb => ?_, fun h2 ha => ?_⟩
  · simp only [Nat.testBit_or, Bool.or_eq_false_iff] at hw
    rw [F2.frame b hb hw.2, F1.frame b hb hw.1]
  · rw [F2.above b hb, F1.above b (Nat.le_trans F2.le hb)]
  · simp only [Nat.testBit_or, Bool.or_eq_true] at hb ⊢
    rcases hb with hb | hb
    · exact .inl (F1.sub b hb)
    · exact .inr (F2.sub b hb)
  · simp only [Nat.testBit_or, Bool.or_eq_true] at hb
    rcases hb with hb | hb
    · exact F1.low b hb
    · exact F2.low b hb
  · have sub1 : ∀ b, Tch lg r1.nx r1.tc b → Tch lg r2.nx (r1.tc ||| r2.tc) b := fun b hb => by
      rcases hb with hb | hb
      · exact .inl ⟨hb.1, Nat.lt_of_lt_of_le hb.2 F2.le⟩
      · exact .inr (by rw [Nat.testBit_or, hb]; rfl)
    have sub2 : ∀ b, Tch lg r2.nx r2.tc b → Tch lg r2.nx (r1.tc ||| r2.tc) b := fun b hb => by
      rcases hb with hb | hb
      · exact .inl hb
      · exact .inr (by rw [Nat.testBit_or, hb, Bool.or_true])
    obtain ⟨h3, g1, g2, g3⟩ := F1.again h2 (fun b hb => ha b (sub1 b hb))
    have mid : ∀ b, Tch lg r2.nx r2.tc b → h3.blk b = r1.h.blk b := fun b hb => by
      by_cases h1 : Tch lg r1.nx r1.tc b
      · exact g2 b h1
      · rw [g3 b h1, ha b (sub2 b hb)]
        rcases Nat.lt_or_ge b lg with hlt | hge
        · refine (F1.frame b hlt ?_).symm
          cases hw : r1.wr.testBit b with
          | false => rfl
          | true => exact absurd (.inr (F1.sub b hw)) h1
        · refine (F1.above b ?_).symm
          rcases Nat.lt_or_ge b r1.nx with q | q
          · exact absurd (.inl ⟨hge, q⟩) h1
          · exact q
    obtain ⟨h4, k1, k2, k3⟩ := F2.again h3 mid
    refine ⟨h4, ?_, fun b hb => ?_, fun b hb => ?_⟩
    · unfold A.bind
      rw [g1]
      simp only [k1]
    · by_cases h2' : Tch lg r2.nx r2.tc b
      · exact k2 b h2'
      · rw [k3 b h2']
        have h1 : Tch lg r1.nx r1.tc b := by
          rcases hb with hb | hb
          · exact absurd (.inl hb) h2'
          · rw [Nat.testBit_or, Bool.or_eq_true] at hb
            rcases hb with hb | hb
            · exact .inr hb
            · exact absurd (.inr hb) h2'
        rw [g2 b h1]
        rcases Nat.lt_or_ge b lg with hlt | hge
        · refine (F2.frame b hlt ?_).symm
          cases hw : r2.wr.testBit b with
          | false => rfl
          | true => exact absurd (.inr (F2.sub b hw)) h2'
        · refine (F2.above b ?_).symm
          rcases Nat.lt_or_ge b r2.nx with q | q
          · exact absurd (.inl ⟨hge, q⟩) h2'
          · exact q
    · rw [k3 b (fun q => hb (sub2 b q)), g3 b (fun q => hb (sub1 b q))]

theorem bit_test (lg b j : Nat) : (bit lg b).testBit j = decide (b < lg ∧ j = b) := by
  unfold bit
  cases hb : Nat.blt b lg with
  | true =>
    have : b < lg := Nat.le_of_ble_eq_true hb
    simp only [Nat.testBit_two_pow]
    by_cases e : b = j
    · subst e; simp [this]
    · simp [e, Ne.symm e]
  | false =>
    have : ¬ b < lg := fun h => by
      have := Nat.ble_eq_true_of_le h
      unfold Nat.blt at hb; simp_all
    simp [this]
theorem blt_lt {a b : Nat} (h : Nat.blt a b = true) : a < b := Nat.le_of_ble_eq_true h

theorem Tch.at {lg nx b : Nat} (h : b < nx) : Tch lg nx (bit lg b) b := by
  rcases Nat.lt_or_ge b lg with q | q
  · exact .inr (by rw [bit_test]; simp [q])
  · exact .inl ⟨q, h⟩

theorem Foot.rd (b : Nat) : Foot (rdBlk b) := by
  intro h n lg r hl e
  have e0 := e
  unfold rdBlk at e
  split at e
  · cases e
  · rename_i hb
    split at e
    · cases e
    · rename_i k hk
      cases e
      refine ⟨Nat.le_refl _, fun _ _ _ => rfl, fun _ _ => rfl, fun c hc => by simp at hc, fun c hc => by rw [bit_test] at hc; simp at hc; omega, fun h2 ha => ⟨h2, ?_, ha, fun _ _ => rfl⟩⟩
      unfold rdBlk
      rw [hb]
      simp only [ha b (Tch.at (blt_lt hb)), hk]

theorem Foot.wr (b : Nat) (cs : List AV) : Foot (wrBlk b cs) := by
  intro h n lg r hl e
  unfold wrBlk at e
  split at e
  · cases e
  · rename_i hb
    split at e
    · cases e
    · rename_i k hk
      split at e
      · rename_i hc
        cases e
        refine ⟨Nat.le_refl _, fun c hc hw => ?_, fun c hc => ?_, fun c hc => hc, fun c hc => by rw [bit_test] at hc; simp at hc; omega, fun h2 ha => ⟨h2.set b (some { k with cells := cs }), ?_, fun c hc => ?_, fun c hc => ?_⟩⟩
        · rw [bit_test] at hw
          simp only [decide_eq_false_iff_not, not_and] at hw
          exact Mem.blk_set_ne _ _ _ _ (fun e => by subst e; exact hw hc rfl)
        · have := blt_lt hb
          simp only at hc
          exact Mem.blk_set_ne _ _ _ _ (by omega)
        · unfold wrBlk
          rw [hb]
          simp only [ha b (Tch.at (blt_lt hb)), hk, hc]
        · simp only
          rw [Mem.blk_set, Mem.blk_set]
          split
          · rfl
          · exact ha c hc
        · exact Mem.blk_set_ne _ _ _ _ (fun e => by subst e; exact hc (Tch.at (blt_lt hb)))
      · cases e

theorem Foot.wrm (b : Nat) (cs : List AV) : Foot (wrMap b cs) := by
  intro h n lg r hl e
  unfold wrMap at e
  split at e
  · cases e
  · rename_i hb
    split at e
    · cases e
    · rename_i k hk
      split at e
      · rename_i hc
        cases e
        refine ⟨Nat.le_refl _, fun c hc hw => ?_, fun c hc => ?_, fun c hc => hc, fun c hc => by rw [bit_test] at hc; simp at hc; omega, fun h2 ha => ⟨h2.set b (some { k with cells := cs }), ?_, fun c hc => ?_, fun c hc => ?_⟩⟩
        · rw [bit_test] at hw
          simp only [decide_eq_false_iff_not, not_and] at hw
          exact Mem.blk_set_ne _ _ _ _ (fun e => by subst e; exact hw hc rfl)
        · have := blt_lt hb
          simp only at hc
          exact Mem.blk_set_ne _ _ _ _ (by omega)
        · unfold wrMap
          rw [hb]
          simp only [ha b (Tch.at (blt_lt hb)), hk, hc]
        · simp only
          rw [Mem.blk_set, Mem.blk_set]
          split
          · rfl
          · exact ha c hc
        · exact Mem.blk_set_ne _ _ _ _ (fun e => by subst e; exact hc (Tch.at (blt_lt hb)))
      · cases e

theorem Foot.new (ty sz : Nat) (g : Bool) (cs : List AV) : Foot (newBlk ty sz g cs) := by
  intro h n lg r hl e
  unfold newBlk at e
  cases e
  refine ⟨Nat.le_succ n, fun c hc hw => ?_, fun c hc => ?_, fun c hc => by simp at hc, fun c hc => by simp at hc, fun h2 ha => ⟨h2.set n (some ⟨ty, sz, true, g, cs⟩), rfl, fun c hc => ?_, fun c hc => ?_⟩⟩
  · exact Mem.blk_set_ne _ _ _ _ (by omega)
  · simp only at hc
    exact Mem.blk_set_ne _ _ _ _ (by omega)
  · simp only
    rw [Mem.blk_set, Mem.blk_set]
    split
    · rfl
    · exact ha c hc
  · exact Mem.blk_set_ne _ _ _ _ (fun e => by subst e; exact hc (.inl ⟨hl, Nat.lt_succ_self _⟩))

theorem Foot.mov (b o : Nat) (cs : List AV) : Foot (movBlk b o cs) := by
  intro h n lg r hl e
  unfold movBlk at e
  split at e
  · cases e
  · rename_i hb
    have hbn := blt_lt hb
    split at e
    · cases e
    · rename_i k hk
      split at e
      · rename_i hc
        cases e
        have hT : ∀ {lg}, Tch lg (n + 1) (bit lg b) b := fun {lg} => Tch.at (by omega)
        refine ⟨Nat.le_succ n, fun c hc hw => ?_, fun c hc => ?_, fun c hc => hc, fun c hc => by rw [bit_test] at hc; simp at hc; omega, fun h2 ha => ⟨(h2.set b none).set n (some ⟨k.ty, k.sz, true, true, cs⟩), ?_, fun c hc => ?_, fun c hc => ?_⟩⟩
        · rw [bit_test] at hw
          simp only [decide_eq_false_iff_not, not_and] at hw
          simp only
          rw [Mem.blk_set_ne _ _ _ _ (by omega), Mem.blk_set_ne _ _ _ _ (fun e => by subst e; exact hw hc rfl)]
        · simp only at hc ⊢
          rw [Mem.blk_set_ne _ _ _ _ (by omega), Mem.blk_set_ne _ _ _ _ (by omega)]
        · unfold movBlk
          rw [hb]
          simp only [ha b hT, hk, hc]
        · simp only
          rw [Mem.blk_set, Mem.blk_set, Mem.blk_set, Mem.blk_set]
          split
          · rfl
          · split
            · rfl
            · exact ha c hc
        · rw [Mem.blk_set_ne _ _ _ _ (fun e => by subst e; exact hc (.inl ⟨hl, Nat.lt_succ_self _⟩)), Mem.blk_set_ne _ _ _ _ (fun e => by subst e; exact hc hT)]
      · cases e

theorem Foot.rdEls (sz n : Nat) (v : AV) : Foot (rdEls sz n v) := by
  unfold Go.Proofs.YtamfoplfbidolaaGreatDoorE.rdEls
  cases v <;> first | exact Foot.fail | skip
  · simp only; split <;> first | exact Foot.ret _ | exact Foot.fail
  · simp only; split
    · exact Foot.ret _
    · split <;> first | exact Foot.fail | exact Foot.bind (Foot.rd _) fun _ => Foot.ofOpt _
  · simp only; split <;> first | exact Foot.ret _ | exact Foot.fail

theorem Foot.appA (ty sz bytes n : Nat) (s : AV) (xs : List AV) : Foot (appA ty sz bytes n s xs) := by
  unfold Go.Proofs.YtamfoplfbidolaaGreatDoorE.appA
  repeat' first
    | exact Foot.ret _
    | exact Foot.fail
    | exact Foot.rd _
    | exact Foot.wr _ _
    | exact Foot.new _ _ _ _
    | exact Foot.mov _ _ _
    | exact Foot.ofOpt _
    | (refine Foot.bind ?_ (fun _ => ?_))
    | split

theorem Foot.op {call : FuncId → List AV → A AV} (hc : ∀ f xs, Foot (call f xs)) (ts : List AV) (o : AOp) : Foot (opRun call ts o) := by
  unfold opRun
  repeat' first
    | exact Foot.ret _
    | exact Foot.fail
    | exact Foot.rd _
    | exact Foot.wr _ _
    | exact Foot.wrm _ _
    | exact Foot.new _ _ _ _
    | exact Foot.mov _ _ _
    | exact Foot.ofOpt _
    | exact Foot.rdEls _ _ _
    | exact Foot.appA _ _ _ _ _ _
    | exact hc _ _
    | (refine Foot.bind ?_ (fun _ => ?_))
    | split

end Go.Proofs.YtamfoplfbidolaaGreatDoorE

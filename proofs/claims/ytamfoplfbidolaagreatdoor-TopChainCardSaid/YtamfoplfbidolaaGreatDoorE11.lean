/- The engine, part 11: append and copy. -/
import Derived.Test.YtamfoplfbidolaaGreatDoorE10
namespace Go.Proofs.YtamfoplfbidolaaGreatDoorE
open Go Go.RowKit
set_option linter.unusedVariables false
set_option linter.unusedSimpArgs false

section
variable {P : Program} {B : Nat} {m : Mp} {h : Mem} {w : World} {ts : List AV} {a : Act} {n lg : Nat} {r : Rs AV} {o : Oper} {call : FuncId → List AV → A AV}

theorem fits_inv {need by_ : Nat} (h : fits need by_ = true) : need ≤ 2 ^ 48 ∧ need * by_ ≤ 140737488355328 := by
  unfold fits at h
  rw [Bool.and_eq_true] at h
  exact ⟨Nat.le_of_ble_eq_true h.1, Nat.le_of_ble_eq_true h.2⟩

/-- A new array, behind a draw. -/
theorem Step.grown (hr : HR B m h w) (hn : m n = none) (ty sz : Nat) {cs : List AV} {us rest : List Value} (hv : VRs m cs us) (t : TypeId) {s : Sem Next} {v : AV} {u : Value} {tc wr : Nat}
    (hs : s.run P w = .ok (.value u) (w.drew.alloc (.cells (us ++ rest).toArray t))) (hu : VR (m.up n ⟨w.heap.size, 0, (us ++ rest).length, sz, false⟩) v u) :
    Step P B m n ⟨v, h.set n (some ⟨ty, sz, true, true, cs⟩), n + 1, tc, wr⟩ s w :=
  ⟨_, u, _, .inl hs, Ext.up m n _ hn, HR.new (w := w.drew) (hr.heap rfl) hn ty sz true hv t, hu, ((Below.refl B w).drew).alloc hr.base _, Nat.le_succ n⟩

set_option maxHeartbeats 1000000 in
theorem appA_run {el sz by_ k : Nat} {atys : Array TypeId} {ty : TypeId} {s : AV} {xs : List AV} {su xu : Value} {news : List Value} (hr : HR B m h w) (hf : Fresh m n r.nx) (hsz : 0 < sz)
    (ap : (∀ base len cap, su = .slice base len cap → cap < len + k → (len + k) * by_ ≤ 140737488355328) → Appends P el sz atys ty su xu k news w) (hs : VR m s su) (hx : VRs m xs news) (hxl : xs.length = k * sz)
    {S : Sem Next} (hrun : ∀ u w', (Builtin.append_ atys ty #[su, xu]).run P w = .ok u w' → S.run P w = .ok (.value u) w')
    (e : appA el sz by_ k s xs h n lg = some r) : Step P B m n r S w := by
  have hnl := hx.length
  unfold appA at e
  cases hk0 : Nat.beq k 0 with
  | true =>
    rw [hk0] at e
    have hk := Nat.eq_of_beq_eq_true hk0
    subst hk
    have hnews : news = [] := List.eq_nil_of_length_eq_zero (by rw [hnl, hxl]; simp)
    subst hnews
    cases s <;> first | (simp [A.fail] at e; done) | skip
    · rename_i b off len c
      have e1 := A.ret_inv e; subst e1
      have hs' := hs
      simp only [VR] at hs
      obtain ⟨l, ad, cc, hl, hm, rfl, hle, had, hcap⟩ := hs
      have ap' := ap (fun base len' cap e hg => by cases e; omega)
      refine Step.same hr (hrun _ _ (ap'.room _ _ _ rfl (by omega) w rfl)) hs'
    · have e1 := A.ret_inv e; subst e1
      have hs' := hs
      simp only [VR] at hs; subst hs
      have ap' := ap (fun base len' cap e hg => by cases e; omega)
      exact Step.same hr (hrun _ _ (ap'.room _ _ _ rfl (Nat.le_refl _) w rfl)) hs'
  | false =>
    rw [hk0] at e
    have hk : 0 < k := by
      rcases Nat.eq_zero_or_pos k with h | h
      · subst h; simp at hk0
      · exact h
    cases s <;> first | (simp [A.fail] at e; done) | skip
    · rename_i b off len c
      simp only [VR] at hs
      obtain ⟨l, ad, cc, hl, hm, rfl, hle, had, hcap⟩ := hs
      cases c with
      | some c =>
        simp only at e hcap
        subst hcap
        cases hroom : Nat.ble (len + k) cc with
        | true =>
          rw [hroom] at e
          have hroom' := Nat.le_of_ble_eq_true hroom
          obtain ⟨r1, r2, e1, e2, rfl⟩ := A.bind_inv e
          obtain ⟨q, hq, rfl⟩ := rdBlk_inv e1
          dsimp only at e2
          cases hfit : Nat.ble (off + (len + k) * sz) q.cells.length && xs.all AV.one with
          | false => rw [hfit] at e2; simp [A.fail] at e2
          | true =>
            rw [hfit] at e2
            rw [Bool.and_eq_true] at hfit
            have hfit1 := Nat.le_of_ble_eq_true hfit.1
            obtain ⟨r3, r4, e3, e4, rfl⟩ := A.bind_inv e2
            obtain ⟨q', hq', hown, hlen', rfl⟩ := wrBlk_inv e3
            have e5 := A.ret_inv e4; subst e5
            rw [hq] at hq'; cases hq'
            rw [Nat.add_mul] at hfit1
            obtain ⟨w', hst, hr', hbw⟩ := Step.write (P := P) hr hq hown hl hm (off := off + len * sz) hx (by omega) hfit.2
            have had' : ad = ⟨l.blk, l.base + off, none⟩ := by
              rcases had with had | had
              · omega
              · exact had
            subst had'
            have ap' := ap (fun base len' cap e hg => by cases e; omega)
            refine ⟨m, _, w', .inl (hrun _ _ (ap'.room _ _ _ rfl hroom' w' (by simp only [add_lit]; rw [Nat.add_assoc]; exact hst))), Ext.refl m n, hr', ?_, hbw, Nat.le_refl n⟩
            simp only [VR]
            exact ⟨l, _, _, hl, hm, rfl, hroom', .inr rfl, rfl⟩
        | false =>
          rw [hroom] at e
          simp only at e
          have hroom' : cc < len + k := by
            rcases Nat.lt_or_ge cc (len + k) with h | h
            · exact h
            · rw [Nat.ble_eq_true_of_le h] at hroom; cases hroom
          cases hfits : fits (len + k) by_ with
          | false => rw [hfits] at e; simp [A.fail] at e
          | true =>
            rw [hfits] at e
            obtain ⟨f1, f2⟩ := fits_inv hfits
            obtain ⟨r1, r2, e1, e2, rfl⟩ := A.bind_inv e
            obtain ⟨q, hq, rfl⟩ := rdBlk_inv e1
            obtain ⟨r3, r4, e3, e4, rfl⟩ := A.bind_inv e2
            obtain ⟨old, hold, rfl⟩ := A.ofOpt_inv e3
            obtain ⟨r5, r6, e5, e6, rfl⟩ := A.bind_inv e4
            unfold newBlk at e5; cases e5
            have e7 := A.ret_inv e6; subst e7
            obtain ⟨vs, g1, g2, g3⟩ := (hr.at hq hl hm).readsSub hold
            have ap' := ap (fun base len' cap e hg => by cases e; exact f2)
            have hold' : ∀ w', w'.heap = w.heap → (Builtin.firstCells sz len (.slice (some ad) len cc)).run P w' = .ok vs.toArray w' := fun w' hw' => by
              simp only [Builtin.firstCells]
              rcases had with had | had
              · have : len = 0 := by omega
                subst this
                simp only [Nat.zero_mul] at g2 ⊢
                rw [List.eq_nil_of_length_eq_zero g2]; rfl
              · rw [had, ← g2]
                exact run_loadCells_list (P := P) w' _ vs (fun j v hj => by rw [← g3 j v hj]; unfold World.cell?; rw [hw'])
            obtain ⟨newCap, rest, n1, n2, n3⟩ := ap'.grow _ _ _ _ rfl hroom' f1 hold'
            have n4 := hrun _ _ n2
            refine Step.grown hr (hf n (Nat.le_refl _) (Nat.lt_succ_self n)) el sz (VRs.append g1 hx) el n4 ?_
            simp only [VR]
            refine ⟨_, _, _, up_at .., rfl, rfl, n1, .inr (by simp), ?_⟩
            simp only [List.length_append, g2, hnl, hxl, n3, Nat.sub_mul, Nat.add_mul]
            have : (len + k) * sz ≤ newCap * sz := Nat.mul_le_mul_right _ n1
            rw [Nat.add_mul] at this
            omega
      | none =>
        simp only at e hcap
        obtain ⟨r1, r2, e1, e2, rfl⟩ := A.bind_inv e
        obtain ⟨q, hq, rfl⟩ := rdBlk_inv e1
        dsimp only at e2
        have hh := hr.at hq hl hm
        have hfit0 := hh.fit
        cases hg : q.grow && Nat.beq q.sz sz with
        | false => rw [hg] at e2; simp [A.fail] at e2
        | true =>
          rw [hg] at e2
          rw [Bool.and_eq_true] at hg
          simp only at e2
          have hlsz : l.sz = sz := (hh.sz hg.1).trans (Nat.eq_of_beq_eq_true hg.2)
          rw [hlsz] at hcap
          cases hone : xs.all AV.one with
          | false => rw [hone] at e2; simp [A.fail] at e2
          | true =>
            rw [hone] at e2
            simp only at e2
            cases hin : Nat.ble (off + (len + k) * sz) q.cells.length with
            | true =>
              rw [hin] at e2
              have hin1 := Nat.le_of_ble_eq_true hin
              have hroom' : len + k ≤ cc := by
                have : (len + k) * sz ≤ cc * sz := by omega
                exact Nat.le_of_mul_le_mul_right this hsz
              obtain ⟨r3, r4, e3, e4, rfl⟩ := A.bind_inv e2
              obtain ⟨q', hq', hown, hlen', rfl⟩ := wrBlk_inv e3
              have e5 := A.ret_inv e4; subst e5
              rw [hq] at hq'; cases hq'
              rw [Nat.add_mul] at hin1
              obtain ⟨w', hst, hr', hbw⟩ := Step.write (P := P) hr hq hown hl hm (off := off + len * sz) hx (by omega) hone
              have had' : ad = ⟨l.blk, l.base + off, none⟩ := by
                rcases had with had | had
                · omega
                · exact had
              subst had'
              have ap' := ap (fun base len' cap e hg => by cases e; omega)
              refine ⟨m, _, w', .inl (hrun _ _ (ap'.room _ _ _ rfl hroom' w' (by simp only [add_lit]; rw [Nat.add_assoc]; exact hst))), Ext.refl m n, hr', ?_, hbw, Nat.le_refl n⟩
              simp only [VR]
              exact ⟨l, _, _, hl, hm, rfl, hroom', .inr rfl, by rw [hlsz]; exact hcap⟩
            | false =>
              rw [hin] at e2
              simp only at e2
              cases hfits : fits (len + k) by_ with
              | false => rw [hfits] at e2; simp [A.fail] at e2
              | true =>
                rw [hfits] at e2
                obtain ⟨f1, f2⟩ := fits_inv hfits
                obtain ⟨r3, r4, e3, e4, rfl⟩ := A.bind_inv e2
                obtain ⟨old, hold, rfl⟩ := A.ofOpt_inv e3
                obtain ⟨r5, r6, e5, e6, rfl⟩ := A.bind_inv e4
                obtain ⟨q', hq', hown, hgrow, rfl⟩ := movBlk_inv e5
                have e7 := A.ret_inv e6; subst e7
                rw [hq] at hq'; cases hq'
                have hn : m n = none := hf n (Nat.le_refl _) (Nat.lt_succ_self n)
                have hbn : b ≠ n := fun e => by rw [e] at hl; rw [hn] at hl; cases hl
                obtain ⟨vs, g1, g2, g3⟩ := hh.readsSub hold
                have ap' := ap (fun base len' cap e hg => by cases e; exact f2)
                by_cases hroom' : len + k ≤ cc
                · have had' : ad = ⟨l.blk, l.base + off, none⟩ := by
                    rcases had with had | had
                    · omega
                    · exact had
                  subst had'
                  obtain ⟨⟨c, t, fz, p1, p2, p3, us, p4, p5⟩, _, pown, _⟩ := hh
                  have hfz := p3 hown; subst hfz
                  have hmul : (len + k) * sz ≤ cc * sz := Nat.mul_le_mul_right _ hroom'
                  rw [Nat.add_mul] at hmul
                  have hst := run_storeCells_at P l.blk (l.base + off + len * sz) t news 0 c w p1 (by omega) (VRs.one hx hone)
                  simp only [Nat.add_zero] at hst
                  have hmv := hr.move hq hown hgrow hl hm hn hold hx (by omega) p1
                  refine ⟨m.up n ⟨l.blk, l.base + off, l.n - off, l.sz, false⟩, _, _, .inl (hrun _ _ (ap'.room _ _ _ rfl hroom' _ (by simp only [add_lit]; exact hst))), Ext.up m n _ hn, ?_, ?_, Below.setRow (Below.refl B w) (pown hown) _, Nat.le_succ n⟩
                  · simpa [lay] using hmv
                  · simp only [VR]
                    refine ⟨_, _, _, up_at .., rfl, rfl, hroom', .inr (by simp), ?_⟩
                    simp only [hlsz]
                    omega
                · have hold' : ∀ w', w'.heap = w.heap → (Builtin.firstCells sz len (.slice (some ad) len cc)).run P w' = .ok vs.toArray w' := fun w' hw' => by
                    simp only [Builtin.firstCells]
                    rcases had with had | had
                    · have : len = 0 := by omega
                      subst this
                      simp only [Nat.zero_mul] at g2 ⊢
                      rw [List.eq_nil_of_length_eq_zero g2]; rfl
                    · rw [had, ← g2]
                      exact run_loadCells_list (P := P) w' _ vs (fun j v hj => by rw [← g3 j v hj]; unfold World.cell?; rw [hw'])
                  obtain ⟨newCap, rest, n1, n2, n3⟩ := ap'.grow _ _ _ _ rfl (by omega) f1 hold'
                  have n4 := hrun _ _ n2
                  have hq2 : q.sz = sz := Nat.eq_of_beq_eq_true hg.2
                  have := Step.grown (P := P) (hr.drop b) hn q.ty sz (VRs.append g1 hx) el (tc := bit lg b ||| (0 ||| (bit lg b ||| 0))) (wr := 0 ||| (0 ||| (bit lg b ||| 0))) n4 (v := .slc n 0 (len + k) none) (by
                    simp only [VR]
                    refine ⟨_, _, _, up_at .., rfl, rfl, n1, .inr (by simp), ?_⟩
                    simp only [List.length_append, g2, hnl, hxl, n3, Nat.sub_mul, Nat.add_mul]
                    have : (len + k) * sz ≤ newCap * sz := Nat.mul_le_mul_right _ n1
                    rw [Nat.add_mul] at this
                    omega)
                  rw [← hq2] at this
                  exact this
    · simp only at e
      simp only [VR] at hs; subst hs
      cases hfits : fits k by_ with
      | false => rw [hfits] at e; simp [A.fail] at e
      | true =>
        rw [hfits] at e
        obtain ⟨f1, f2⟩ := fits_inv hfits
        obtain ⟨r5, r6, e5, e6, rfl⟩ := A.bind_inv e
        unfold newBlk at e5; cases e5
        have e7 := A.ret_inv e6; subst e7
        have ap' := ap (fun base len' cap e hg => by cases e; simpa using f2)
        obtain ⟨newCap, rest, n1, n2, n3⟩ := ap'.grow none 0 0 #[] rfl (by omega) (by omega) (fun w' _ => rfl)
        have n4 := hrun _ _ n2
        simp only [Nat.zero_add, Array.toList_empty, List.nil_append] at n1 n3 n4
        refine Step.grown hr (hf n (Nat.le_refl _) (Nat.lt_succ_self n)) el sz hx el n4 ?_
        simp only [VR]
        refine ⟨_, _, _, up_at .., rfl, rfl, n1, .inr (by simp), ?_⟩
        simp only [List.length_append, hnl, hxl, n3, Nat.sub_mul]
        have : k * sz ≤ newCap * sz := Nat.mul_le_mul_right _ n1
        omega

end
end Go.Proofs.YtamfoplfbidolaaGreatDoorE

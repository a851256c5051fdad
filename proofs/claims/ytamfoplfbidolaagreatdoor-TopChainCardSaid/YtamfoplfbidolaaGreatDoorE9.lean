/- The engine, part 9: parts of slices; what is appended, copied. -/
import Derived.Test.YtamfoplfbidolaaGreatDoorE8
namespace Go.Proofs.YtamfoplfbidolaaGreatDoorE
open Go Go.RowKit
set_option linter.unusedVariables false
set_option linter.unusedSimpArgs false

theorem cXo_none {o : Option Operand} (h : cXo o = some none) : o = none := by
  cases o with
  | none => rfl
  | some o => simp [cXo] at h
theorem cXo_some {o : Option Operand} {x : X} (h : cXo o = some (some x)) : ∃ q, o = some q ∧ cX q = some x := by
  cases o with
  | none => simp [cXo] at h
  | some q =>
    refine ⟨q, rfl, ?_⟩
    simp only [cXo] at h
    obtain ⟨y, hy, e⟩ := Option.map_eq_some_iff.1 h
    cases e; exact hy

theorem bound_run {P : Program} {m : Mp} {d lim k : Nat} {x : AV} {u : Value} (h : bnd d lim (some x) = some k) (hv : VR m x u) (code : BoundsCode) {lim' : Nat} (hl : lim ≤ lim') (w : World) :
    (Instr.sliceBound u lim' code).run P w = .ok k w ∧ k ≤ lim := by
  cases x <;> first | (simp [bnd] at h; done) | skip
  simp only [bnd] at h
  obtain ⟨g1, g2, rfl⟩ := toNle_some h
  rw [hv.int_inv]
  refine ⟨?_, by omega⟩
  simp only [Instr.sliceBound, asIntOf, Sem.run_bind, Sem.run_pure, Result.andThen_ok]
  rw [if_pos ⟨g1, by omega⟩]
  rfl

theorem bounds_run {P : Program} {m : Mp} {ts : List AV} {a : Act} (ht : VRs m ts a.tmps.toList) {lo hi mx : Option Operand} {lo' hi' mx' : Option X} (hlo : cXo lo = some lo') (hhi : cXo hi = some hi') (hmx : cXo mx = some mx')
    (h3 : (mx'.isSome && !hi'.isSome) = false) {isS : Bool} {len cap cap0 M H L : Nat} (hM : bnd cap cap0 (mx'.map (·.ev ts)) = some M) (hc : cap0 ≤ cap)
    {lim : Nat} (hlim : lim ≤ M) (hH : bnd len lim (hi'.map (·.ev ts)) = some H) (hL : bnd 0 H (lo'.map (·.ev ts)) = some L) (w : World) :
    (Instr.sliceBounds isS len cap (lo.map a.eval) (hi.map a.eval) (mx.map a.eval)).run P w = .ok (L, H, M) w ∧ L ≤ H ∧ (hi' = none → H = len ∧ M = cap) ∧ (hi' ≠ none → H ≤ lim) := by
  have low : ∀ (code : BoundsCode) (M' : Nat), (match (lo.map a.eval) with | some v => (do let l ← Instr.sliceBound v H code; pure (l, H, M')) | none => (do let l ← pure 0; pure (l, H, M')) : Sem (Nat × Nat × Nat)).run P w = .ok (L, H, M') w ∧ L ≤ H := by
    intro code M'
    cases lo' with
    | none =>
      have := cXo_none hlo; subst this
      simp only [Option.map_none, bnd] at hL; cases hL
      exact ⟨rfl, Nat.zero_le _⟩
    | some x =>
      obtain ⟨q, rfl, hq⟩ := cXo_some hlo
      obtain ⟨b1, b2⟩ := bound_run (P := P) hL (cX_sound ht hq) code (Nat.le_refl _) w
      refine ⟨?_, b2⟩
      simp only [Option.map_some, Sem.run_bind, b1, Result.andThen_ok, Sem.run_pure]
  cases mx' with
  | none =>
    have := cXo_none hmx; subst this
    simp only [Option.map_none, bnd] at hM; cases hM
    cases hi' with
    | none =>
      have := cXo_none hhi; subst this
      simp only [Option.map_none, bnd] at hH; cases hH
      refine ⟨?_, (low .sliceB 0).2, fun _ => ⟨rfl, rfl⟩, fun e => absurd rfl e⟩
      have := (low .sliceB cap).1
      simp only [Instr.sliceBounds, Option.map_none, Sem.run_bind, Sem.run_pure, Result.andThen_ok, Option.isSome_none, Bool.false_eq_true, if_false]
      exact this
    | some x =>
      obtain ⟨q, rfl, hq⟩ := cXo_some hhi
      obtain ⟨e1, e2⟩ := bound_run (P := P) hH (cX_sound ht hq) (if isS then .sliceAcap else .sliceAlen) hlim w
      refine ⟨?_, (low .sliceB 0).2, fun e => absurd e (by simp), fun _ => e2⟩
      have := (low .sliceB cap).1
      simp only [Instr.sliceBounds, Option.map_none, Option.map_some, Sem.run_bind, Sem.run_pure, Result.andThen_ok, e1, Option.isSome_none, Bool.false_eq_true, if_false]
      exact this
  | some y =>
    obtain ⟨p, rfl, hp⟩ := cXo_some hmx
    cases hi' with
    | none => simp at h3
    | some x =>
      obtain ⟨q, rfl, hq⟩ := cXo_some hhi
      obtain ⟨e3, e4⟩ := bound_run (P := P) hM (cX_sound ht hp) (if isS then .slice3Acap else .slice3Alen) hc w
      obtain ⟨e1, e2⟩ := bound_run (P := P) hH (cX_sound ht hq) .slice3B hlim w
      refine ⟨?_, (low .slice3C 0).2, fun e => absurd e (by simp), fun _ => e2⟩
      have := (low .slice3C M).1
      simp only [Instr.sliceBounds, Option.map_some, Sem.run_bind, Sem.run_pure, Result.andThen_ok, e1, e3, Option.isSome_some, if_true]
      exact this

section
variable {P : Program} {B : Nat} {m : Mp} {h : Mem} {w : World} {ts : List AV} {a : Act} {n lg : Nat} {r : Rs AV} {o : Oper} {call : FuncId → List AV → A AV}

/-- Three bounds, one by one. -/
theorem three_inv {x1 : Option Nat} {x3 : Nat → Option Nat} {f : Nat → Nat → Nat → A AV} {h : Mem} {n lg : Nat} {r : Rs AV} {g2 : Nat → Option Nat}
    (e : (match x1 with | some m => (match g2 m with | some h => (match x3 h with | some l => f m h l | none => A.fail) | none => A.fail) | none => A.fail) h n lg = some r) :
    ∃ M H L, x1 = some M ∧ g2 M = some H ∧ x3 H = some L ∧ f M H L h n lg = some r := by
  cases x1 with
  | none => simp [A.fail] at e
  | some M =>
    simp only at e
    cases hH : g2 M with
    | none => rw [hH] at e; simp [A.fail] at e
    | some H =>
      rw [hH] at e; simp only at e
      cases hL : x3 H with
      | none => rw [hL] at e; simp [A.fail] at e
      | some L => rw [hL] at e; exact ⟨M, H, L, rfl, hH, hL, e⟩

theorem st_slstr (hr : HR B m h w) (ht : VRs m ts a.tmps.toList) {t : TypeId} {x : Operand} {x' : X} {lo hi : Option Operand} {lo' hi' : Option X} (ho : o.op = .slice t x lo hi none) (hu : P.underlying t = some .string) (hx : cX x = some x') (hlo : cXo lo = some lo') (hhi : cXo hi = some hi')
    (e : opRun call ts (.slstr x' lo' hi') h n lg = some r) : Step P B m n r (execOp a.eval o) w := by
  simp only [opRun] at e
  have h1 := cX_sound ht hx
  generalize x'.ev ts = v at e h1
  cases v <;> first | (simp [A.fail] at e; done) | skip
  rename_i s
  simp only at e
  cases hH : bnd s.size s.size (hi'.map (·.ev ts)) with
  | none => rw [hH] at e; simp [A.fail] at e
  | some H =>
    rw [hH] at e; simp only at e
    cases hL : bnd 0 H (lo'.map (·.ev ts)) with
    | none => rw [hL] at e; simp [A.fail] at e
    | some L =>
      rw [hL] at e; simp only at e
      have e1 := A.ret_inv e; subst e1
      obtain ⟨b1, _⟩ := bounds_run (P := P) (isS := false) (mx := none) (mx' := none) (cap := s.size) (cap0 := s.size) (M := s.size) ht hlo hhi rfl rfl (by simp [bnd]) (Nat.le_refl _) (Nat.le_refl _) hH hL w
      refine Step.same hr ?_ (VR.str _)
      unfold execOp; rw [ho]
      refine run_val ?_
      simp only [Instr.sliceAt, Sem.run_bind, run_und hu, Result.andThen_ok, Instr.slice, Option.map_none, Option.isSome_none, Bool.false_eq_true, if_false, h1.str_inv]
      simp only [Option.map_none] at b1
      rw [b1]
      rfl

theorem st_slarr (hr : HR B m h w) (ht : VRs m ts a.tmps.toList) {t el : TypeId} {len sz : Nat} {x : Operand} {x' : X} {lo hi mx : Option Operand} {lo' hi' mx' : Option X} (ho : o.op = .slice t x lo hi mx) (hu : P.underlying t = some (.array len el)) (hs : szOf P el = some sz) (hx : cX x = some x') (hlo : cXo lo = some lo') (hhi : cXo hi = some hi') (hmx : cXo mx = some mx')
    (h3 : (mx'.isSome && !hi'.isSome) = false) (e : opRun call ts (.slarr len sz x' lo' hi' mx') h n lg = some r) : Step P B m n r (execOp a.eval o) w := by
  simp only [opRun] at e
  have h1 := cX_sound ht hx
  generalize x'.ev ts = v at e h1
  cases v <;> first | (simp [A.fail] at e; done) | skip
  rename_i b off
  simp only at e
  obtain ⟨M, H, L, hM, hH, hL, e⟩ := three_inv (x1 := bnd len len (mx'.map (·.ev ts))) (g2 := fun m => bnd len m (hi'.map (·.ev ts))) (x3 := fun h => bnd 0 h (lo'.map (·.ev ts))) (f := fun m h l => A.ret (.slc b (off + l * sz) (h - l) (some (m - l)))) e
  have e1 := A.ret_inv e; subst e1
  obtain ⟨b1, b2, b3, b4⟩ := bounds_run (P := P) (isS := false) ht hlo hhi hmx h3 hM (Nat.le_refl _) (Nat.le_refl _) hH hL w
  obtain ⟨l, hl, hm, hp⟩ := h1.ptr_inv
  have hHM : H ≤ M := by
    by_cases hn : hi' = none
    · obtain ⟨e1, e2⟩ := b3 hn; omega
    · exact b4 hn
  refine Step.same hr (u := .slice (some (if M = L then ⟨l.blk, l.base + off, none⟩ else ⟨l.blk, l.base + off + L * sz, none⟩)) (H - L) (M - L)) ?_ ?_
  · unfold execOp; rw [ho]
    refine run_val ?_
    simp only [Instr.sliceAt, Sem.run_bind, run_und hu, Result.andThen_ok, hp, Instr.sureAddr, Sem.run_pure, b1, run_szOf hs, add_lit]
  · simp only [VR]
    refine ⟨l, _, _, hl, hm, rfl, by omega, ?_, rfl⟩
    by_cases hML : M = L
    · left; omega
    · right; rw [if_neg hML, Nat.add_assoc]

theorem st_slice (hr : HR B m h w) (ht : VRs m ts a.tmps.toList) {t el : TypeId} {sz : Nat} {x : Operand} {x' : X} {lo hi mx : Option Operand} {lo' hi' mx' : Option X} (ho : o.op = .slice t x lo hi mx) (hu : P.underlying t = some (.slice el)) (hs : szOf P el = some sz) (hx : cX x = some x') (hlo : cXo lo = some lo') (hhi : cXo hi = some hi') (hmx : cXo mx = some mx')
    (h3 : (mx'.isSome && !hi'.isSome) = false) (e : opRun call ts (.slice sz x' lo' hi' mx') h n lg = some r) : Step P B m n r (execOp a.eval o) w := by
  simp only [opRun] at e
  have h1 := cX_sound ht hx
  generalize x'.ev ts = v at e h1
  cases v <;> first | (simp [A.fail] at e; done) | skip
  · rename_i b off len c
    simp only [VR] at h1
    obtain ⟨l, ad, cc, hl, hm, hp, hle, had, hcap⟩ := h1
    cases c with
    | some c =>
      simp only at e hcap
      subst hcap
      obtain ⟨M, H, L, hM, hH, hL, e⟩ := three_inv (x1 := bnd cc cc (mx'.map (·.ev ts))) (g2 := fun m => bnd len m (hi'.map (·.ev ts))) (x3 := fun h => bnd 0 h (lo'.map (·.ev ts))) (f := fun m h l => A.ret (.slc b (off + l * sz) (h - l) (some (m - l)))) e
      have e1 := A.ret_inv e; subst e1
      obtain ⟨b1, b2, b3, b4⟩ := bounds_run (P := P) (isS := true) ht hlo hhi hmx h3 hM (Nat.le_refl _) (Nat.le_refl _) hH hL w
      have hHM : H ≤ M := by
        by_cases hn : hi' = none
        · obtain ⟨e1, e2⟩ := b3 hn; omega
        · exact b4 hn
      have hMc : M ≤ cc := by
        cases mx' with
        | none => simp only [Option.map_none, bnd] at hM; cases hM; exact Nat.le_refl _
        | some y => 
          obtain ⟨p, rfl, hp⟩ := cXo_some hmx
          exact (bound_run (P := P) hM (cX_sound ht hp) .sliceB (Nat.le_refl _) w).2
      refine Step.same hr (u := .slice (some (if M = L then ad else ad.add (L * sz))) (H - L) (M - L)) ?_ ?_
      · unfold execOp; rw [ho]
        refine run_val ?_
        simp only [Instr.sliceAt, Sem.run_bind, run_und hu, Result.andThen_ok, hp, Instr.slice, b1, run_szOf hs, Sem.run_pure]
        by_cases hML : M = L
        · simp only [if_pos hML]
        · simp only [if_neg hML, Option.map_some]
      · simp only [VR]
        refine ⟨l, _, _, hl, hm, rfl, by omega, ?_, rfl⟩
        by_cases hML : M = L
        · left; omega
        · right
          rw [if_neg hML]
          rcases had with had | had
          · omega
          · rw [had, add_lit, Nat.add_assoc]
    | none =>
      simp only at e hcap
      obtain ⟨r1, r2, e1, e2, rfl⟩ := A.bind_inv e
      obtain ⟨k, hk, rfl⟩ := rdBlk_inv e1
      have hh := hr.at hk hl hm
      dsimp only at e2
      cases hg : k.grow && Nat.blt 0 sz && Nat.beq k.sz sz with
      | false => rw [hg] at e2; simp [A.fail] at e2
      | true =>
        rw [hg] at e2
        simp only [Bool.and_eq_true] at hg
        have hsz0 : 0 < sz := Nat.lt_of_lt_of_le Nat.zero_lt_one (Nat.le_of_ble_eq_true hg.1.2)
        have hksz := Nat.eq_of_beq_eq_true hg.2
        have hlsz : l.sz = sz := (hh.sz hg.1.1).trans hksz
        rw [hlsz] at hcap
        have hfit := hh.fit
        have hK : (k.cells.length - off) / sz ≤ cc := by
          have : k.cells.length - off ≤ cc * sz := by omega
          calc (k.cells.length - off) / sz ≤ (cc * sz) / sz := Nat.div_le_div_right this
            _ = cc := Nat.mul_div_cancel _ hsz0
        cases mx' with
        | none =>
          simp only at e2
          cases hH : bnd len ((k.cells.length - off) / sz) (hi'.map (·.ev ts)) with
          | none => rw [hH] at e2; simp [A.fail] at e2
          | some H =>
            rw [hH] at e2; simp only at e2
            cases hL : bnd 0 H (lo'.map (·.ev ts)) with
            | none => rw [hL] at e2; simp [A.fail] at e2
            | some L =>
              rw [hL] at e2; simp only at e2
              have e3 := A.ret_inv e2; subst e3
              obtain ⟨b1, b2, b3, b4⟩ := bounds_run (P := P) (isS := true) (cap := cc) (cap0 := cc) (M := cc) ht hlo hhi hmx h3 (by simp [bnd]) (Nat.le_refl _) hK hH hL w
              have hHM : H ≤ cc := by
                by_cases hn : hi' = none
                · obtain ⟨e1, e2⟩ := b3 hn; omega
                · exact Nat.le_trans (b4 hn) hK
              refine Step.same hr (u := .slice (some (if cc = L then ad else ad.add (L * sz))) (H - L) (cc - L)) ?_ ?_
              · unfold execOp; rw [ho]
                refine run_val ?_
                simp only [Instr.sliceAt, Sem.run_bind, run_und hu, Result.andThen_ok, hp, Instr.slice, b1, run_szOf hs, Sem.run_pure]
                by_cases hML : cc = L
                · simp only [if_pos hML]
                · simp only [if_neg hML, Option.map_some]
              · simp only [VR]
                refine ⟨l, _, _, hl, hm, rfl, by omega, ?_, ?_⟩
                · by_cases hML : cc = L
                  · left; omega
                  · right
                    rw [if_neg hML]
                    rcases had with had | had
                    · omega
                    · rw [had, add_lit, Nat.add_assoc]
                · rw [hlsz, Nat.sub_mul]
                  have : L * sz ≤ cc * sz := Nat.mul_le_mul_right _ (by omega)
                  omega
        | some y =>
          simp only at e2
          obtain ⟨M, H, L, hM, hH, hL, e2⟩ := three_inv (x1 := bnd 0 ((k.cells.length - off) / sz) (some (y.ev ts))) (g2 := fun m => bnd len m (hi'.map (·.ev ts))) (x3 := fun h => bnd 0 h (lo'.map (·.ev ts))) (f := fun m h l => A.ret (.slc b (off + l * sz) (h - l) (some (m - l)))) e2
          have e3 := A.ret_inv e2; subst e3
          obtain ⟨p, rfl, hpm⟩ := cXo_some hmx
          have hMK := (bound_run (P := P) hM (cX_sound ht hpm) .sliceB (Nat.le_refl _) w).2
          have hM' : bnd cc ((k.cells.length - off) / sz) ((some y : Option X).map (·.ev ts)) = some M := by
            have e9 : ∀ (v : AV) (lim : Nat), bnd 0 lim (some v) = bnd cc lim (some v) := fun v lim => by cases v <;> rfl
            rw [Option.map_some, ← e9]; exact hM
          obtain ⟨b1, b2, b3, b4⟩ := bounds_run (P := P) (isS := true) ht hlo hhi hmx h3 hM' hK (Nat.le_refl _) hH hL w
          have hHM : H ≤ M := by
            by_cases hn : hi' = none
            · subst hn; simp at h3
            · exact b4 hn
          refine Step.same hr (u := .slice (some (if M = L then ad else ad.add (L * sz))) (H - L) (M - L)) ?_ ?_
          · unfold execOp; rw [ho]
            refine run_val ?_
            simp only [Instr.sliceAt, Sem.run_bind, run_und hu, Result.andThen_ok, hp, Instr.slice, b1, run_szOf hs, Sem.run_pure]
            by_cases hML : M = L
            · simp only [if_pos hML]
            · simp only [if_neg hML, Option.map_some]
          · simp only [VR]
            refine ⟨l, _, _, hl, hm, rfl, by omega, ?_, rfl⟩
            by_cases hML : M = L
            · left; omega
            · right
              rw [if_neg hML]
              rcases had with had | had
              · omega
              · rw [had, add_lit, Nat.add_assoc]
  · simp only at e
    simp only [VR] at h1
    obtain ⟨M, H, L, hM, hH, hL, e⟩ := three_inv (x1 := bnd 0 0 (mx'.map (·.ev ts))) (g2 := fun m => bnd 0 m (hi'.map (·.ev ts))) (x3 := fun h => bnd 0 h (lo'.map (·.ev ts))) (f := fun m h l => A.ret .nils) e
    have e1 := A.ret_inv e; subst e1
    obtain ⟨b1, b2, b3, b4⟩ := bounds_run (P := P) (isS := true) ht hlo hhi hmx h3 hM (Nat.le_refl _) (Nat.le_refl _) hH hL w
    have hM0 : M = 0 := by
      cases mx' with
      | none => simp only [Option.map_none, bnd] at hM; cases hM; rfl
      | some y =>
        obtain ⟨p, rfl, hp⟩ := cXo_some hmx
        have := (bound_run (P := P) hM (cX_sound ht hp) .sliceB (Nat.le_refl _) w).2
        omega
    have hH0 : H = 0 := by
      by_cases hn : hi' = none
      · exact (b3 hn).1
      · have := b4 hn; omega
    subst hM0; subst hH0
    have hL0 : L = 0 := by omega
    subst hL0
    refine Step.same hr (u := .slice none 0 0) ?_ (by simp only [VR])
    unfold execOp; rw [ho]
    refine run_val ?_
    simp only [Instr.sliceAt, Sem.run_bind, run_und hu, Result.andThen_ok, h1, Instr.slice, b1, run_szOf hs, Sem.run_pure]
    rfl

end
end Go.Proofs.YtamfoplfbidolaaGreatDoorE

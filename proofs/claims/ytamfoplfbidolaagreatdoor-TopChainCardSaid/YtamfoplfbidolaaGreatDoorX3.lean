/- The second executor, text 3 of 4. -/
import Derived.Test.YtamfoplfbidolaaGreatDoorX2
import Derived.Test.YtamfoplfbidolaaGreatDoorX1
/- The second executor: operations on memory. -/
namespace Go.Proofs.YtamfoplfbidolaaGreatDoorX
open Go Go.Proofs.YtamfoplfbidolaaGreatDoorE Go.Proofs.YtamfoplfbidolaaGreatDoorB
set_option linter.unusedVariables false
set_option linter.unusedSimpArgs false

theorem A.bind_ret' {α β : Type} (a : α) (f : α → A β) : A.bind (A.ret a) f = f a := by
  funext h n lg
  unfold A.bind A.ret
  simp only
  cases f a h n lg with
  | none => rfl
  | some s => simp
theorem A.bind_opt {α β : Type} (a : α) (f : α → A β) : A.bind (A.ofOpt (some a)) f = f a := A.bind_ret' a f
theorem A.bind_assoc {α β γ : Type} (x : A α) (f : α → A β) (g : β → A γ) : A.bind (A.bind x f) g = A.bind x fun a => A.bind (f a) g := by
  funext h n lg
  unfold A.bind
  cases x h n lg with
  | none => rfl
  | some r =>
    simp only
    cases f r.v r.h r.nx lg with
    | none => rfl
    | some s =>
      simp only
      cases g s.v s.h s.nx lg with
      | none => rfl
      | some t => simp only [Nat.or_assoc]

section
variable {ρ : Nat → Int} {m : Tm} {nx : Pa} {h : Mem}
theorem Cel.br {n : Nat} {r : Rp V} {cs : List AV} (g : Cel ρ n r cs) (ty sz : Nat) (own grow : Bool) : BR ρ (.mk ty sz own grow n r) ⟨ty, sz, own, grow, cs⟩ := .mk ty sz own grow n r cs g.ok g.n g.vs g.one
theorem BR.cel {ty sz n : Nat} {own grow : Bool} {r : Rp V} {k : Blk} (g : BR ρ (.mk ty sz own grow n r) k) : Cel ρ n r k.cells ∧ k.own = own ∧ k.grow = grow ∧ k.sz = sz ∧ k.ty = ty := by
  cases g with
  | mk ty sz own grow n r cs h1 h2 h3 h4 => exact ⟨⟨h1, h2, h3, h4⟩, rfl, rfl, rfl, rfl⟩
theorem Cel.at {n : Nat} {r : Rp V} {cs : List AV} (g : Cel ρ n r cs) {ty sz : Nat} {own grow : Bool} {k : Blk} (e1 : k.own = own) (e2 : k.grow = grow) (e3 : k.sz = sz) (e4 : k.ty = ty) : BR ρ (.mk ty sz own grow n r) { k with cells := cs } := by
  subst e1; subst e2; subst e3; subst e4
  exact g.br _ _ _ _
theorem f_new {ty sz n : Nat} {z : Rp V} {zs : List AV} {f : Pa → V} {g : Nat → AV} (hm : MR ρ m nx h) (hz : Cel ρ n z zs) (grow : Bool) (hf : VR ρ (f nx) (g nx.nat)) :
    FitAt ρ m nx h (newB (.mk ty sz true grow n z) fun b => done (f b)) (A.bind (newBlk ty sz grow zs) fun b => A.ret (g b)) :=
  FitAt.new hm (hz.br ty sz true grow) fun m' h' hm' => FitAt.done hm' hf
theorem f_alloc {ty sz n : Nat} {z : Rp V} {zs : List AV} (hm : MR ρ m nx h) (hz : Cel ρ n z zs) : FitAt ρ m nx h (newB (.mk ty sz true false n z) fun b => done (.ptr b 0)) (A.bind (newBlk ty sz false zs) fun b => A.ret (.ptr b 0)) := f_new (f := fun b => .ptr b 0) (g := fun b => .ptr b 0) hm hz false (.ptr _ _)
theorem f_box {ty sz : Nat} {x : V} {a : AV} (hm : MR ρ m nx h) (hx : VR ρ x a) : FitAt ρ m nx h (box2 ty sz x) (A.bind (newBlk ty sz false a.cells) fun b => A.ret (.ptr b 0)) :=
  cellsO_ok hx fun n r g => f_alloc hm g
theorem f_bslice {ty sz len n : Nat} {z : Rp V} {zs : List AV} {ps : List (Nat × Nat × V)} {qs : List (Nat × Nat × AV)} (hm : MR ρ m nx h) (hz : Cel ρ n z zs) (hp : PR ρ ps qs) :
    FitAt ρ m nx h (bslice2 ty sz len n (fill2 n z ps)) (A.bind (A.ofOpt (fillA zs qs)) fun cs => A.bind (newBlk ty sz false cs) fun b => A.ret (.slc b 0 len (some len))) := by
  cases hf : fill2 n z ps with
  | none => exact FitAt.fail
  | some r =>
    obtain ⟨cs', h1, h2⟩ := fill2_ok hp hz hf
    rw [h1, A.bind_opt]
    exact f_new (f := fun b => .slc b 0 len (some len)) (g := fun b => .slc b 0 len (some len)) hm h2 false (.slc _ _ _ _)
theorem f_load1 {x : V} {a : AV} (hm : MR ρ m nx h) (hx : VR ρ x a) : FitAt ρ m nx h (load12 x) (match (generalizing := false) a with | .ptr b o => A.bind (rdBlk b) fun k => A.ofOpt (partA k.cells o none) | _ => A.fail) := by
  cases hx <;> first | exact FitAt.fail | skip
  refine FitAt.rd hm fun q k hq hb hk hr => ?_
  cases q with
  | mk ty sz own grow n r =>
    show FitAt ρ m nx h (loadR r _) _
    rw [loadR_eq]
    exact FitAt.opt hm fun v e => hr.cel.1.get e
  | fr r =>
    show FitAt ρ m nx h (loadR r _) _
    rw [loadR_eq]
    refine FitAt.opt hm fun v e => ?_
    cases hr with
    | fr r k hfr => exact hfr _ v e
  | mp ck es => exact FitAt.fail
theorem f_loadn {j : Nat} {x : V} {a : AV} (hm : MR ρ m nx h) (hx : VR ρ x a) : FitAt ρ m nx h (loadn2 j x) (match (generalizing := false) a with | .ptr b o => A.bind (rdBlk b) fun k => A.ofOpt (partA k.cells o (some j)) | _ => A.fail) := by
  cases hx <;> first | exact FitAt.fail | skip
  refine FitAt.rd hm fun q k hq hb hk hr => ?_
  cases q with
  | mk ty sz own grow n r =>
    show FitAt ρ m nx h (loadP n r _ _) _
    rw [loadP_eq]
    exact FitAt.opt hm fun v e => part2_ok hr.cel.1 e
  | fr r => exact FitAt.fail
  | mp ck es => exact FitAt.fail
theorem f_store {n : Nat} {x y : V} {a b : AV} (hm : MR ρ m nx h) (hx : VR ρ x a) (hy : VR ρ y b) :
    FitAt ρ m nx h (store2 n x y) (match (generalizing := false) a with
      | .ptr c o => match Nat.beq b.cells.length n && b.cells.all AV.one with
        | true => A.bind (rdBlk c) fun k => match Nat.ble (o + n) k.cells.length with
          | true => A.bind (wrBlk c (lay k.cells o b.cells)) fun _ => A.ret (.tup [])
          | false => A.fail
        | false => A.fail
      | _ => A.fail) := by
  cases hx <;> first | exact FitAt.fail | skip
  rename_i p o
  refine cellsO_ok hy fun n' r g => ?_
  cases h1 : Nat.beq n' n with
  | false => exact FitAt.fail
  | true =>
    have hn := Nat.eq_of_beq_eq_true h1
    subst hn
    have e1 : (Nat.beq b.cells.length n' && b.cells.all AV.one) = true := by rw [← g.n, g.one, Nat.beq_refl]; rfl
    simp only [e1]
    refine FitAt.rd hm fun q k hq hb hk hr => ?_
    cases q with
    | fr r => exact FitAt.fail
    | mp ck es => exact FitAt.fail
    | mk ty sz own grow l cs =>
      cases own with
      | false => exact FitAt.fail
      | true =>
        obtain ⟨gc, o1, o2, o3, o4⟩ := hr.cel
        simp only
        cases h2 : Nat.ble (Nat.add o n') l with
        | false => exact FitAt.fail
        | true =>
          have hl : o + n' ≤ l := Nat.le_of_ble_eq_true h2
          have e2 : Nat.ble (o + n') k.cells.length = true := Nat.ble_eq_true_of_le (by rw [← gc.n]; exact hl)
          simp only [e2]
          rw [withR_eq]
          refine FitAt.wr hm hb hk o1 ?_ ((gc.ov g hl).at o1 o2 o3 o4) fun m' h' hm' => FitAt.done hm' (.tup _ _ .nil)
          rw [lay_len (by rw [← g.n, ← gc.n]; exact hl)]
/-- What is read as elements. -/
theorem byteL_eq : ∀ (bs : List UInt8), VRs ρ (byteL bs) (bs.map fun b => AV.int .u8 b.toNat)
  | [] => .nil
  | b :: bs => .cons _ _ _ _ (.int _ _) (byteL_eq bs)
theorem byteL_len : ∀ (bs : List UInt8), (byteL bs).length = bs.length
  | [] => rfl
  | b :: bs => by simp only [byteL, List.length_cons, byteL_len bs]
theorem f_rdEls {sz n : Nat} {x : V} {a : AV} {k : Rp V → K2} {f : List AV → A AV} (hm : MR ρ m nx h) (hx : VR ρ x a) (H : ∀ r xs, Cel ρ (n * sz) r xs → FitAt ρ m nx h (k r) (f xs)) : FitAt ρ m nx h (rdEls2 sz n x k) (A.bind (rdEls sz n a) f) := by
  have nil : n = 0 → Cel ρ (n * sz) .em [] := fun e => ⟨trivial, by rw [e]; simp, .nil, rfl⟩
  cases hx <;> first | exact FitAt.fail | skip
  · rename_i s
    unfold rdEls2 rdEls
    simp only
    cases h1 : (Nat.ble n s.size && Nat.ble n 1048576) with
    | false => exact FitAt.fail
    | true =>
      simp only [Bool.and_eq_true] at h1
      simp only
      cases h2 : Nat.beq sz 1 with
      | false => exact FitAt.fail
      | true =>
        have hs := Nat.eq_of_beq_eq_true h2
        subst hs
        simp only [h1.1, Bool.true_and]
        rw [A.bind_ret']
        have hn := Nat.le_of_ble_eq_true h1.1
        have hn2 := Nat.le_of_ble_eq_true h1.2
        have hlen : (byteL (s.data.toList.take n)).length = n := by
          rw [byteL_len, List.length_take]
          have : s.data.toList.length = s.size := Array.length_toList
          omega
        obtain ⟨q1, q2⟩ := Rp.ofList_ok 39 n (byteL (s.data.toList.take n)) hlen.symm (Nat.le_trans hn2 (by decide))
        refine H _ _ ⟨q1, ?_, ?_, ?_⟩
        · rw [List.length_map, Nat.mul_one, ← byteL_len, hlen]
        · rw [q2]; exact byteL_eq _
        · exact List.all_eq_true.2 fun x hx => by
            obtain ⟨b, _, rfl⟩ := List.mem_map.1 hx
            rfl
  · rename_i p o l c
    unfold rdEls2 rdEls
    cases n with
    | zero =>
      simp only
      rw [A.bind_ret']
      exact H _ _ (nil rfl)
    | succ n =>
      simp only [show Nat.beq (n + 1) 0 = false from rfl]
      cases h1 : Nat.ble (n + 1) l with
      | false => exact FitAt.fail
      | true =>
        simp only
        rw [A.bind_assoc]
        refine FitAt.rd hm fun q k' hq hb hk hr => ?_
        cases q with
        | fr r => exact FitAt.fail
        | mp ck es => exact FitAt.fail
        | mk ty sz' own grow l' cs =>
          obtain ⟨gc, _⟩ := hr.cel
          simp only
          cases h2 : Nat.ble (Nat.add o (Nat.mul (n + 1) sz)) l' with
          | false => exact FitAt.fail
          | true =>
            have hl : o + (n + 1) * sz ≤ l' := Nat.le_of_ble_eq_true h2
            rw [sub_some (by rw [← gc.n]; exact hl), A.bind_opt]
            exact H _ _ (gc.sub hl)
  · unfold rdEls2 rdEls
    cases h1 : Nat.beq n 0 with
    | false => exact FitAt.fail
    | true =>
      simp only
      rw [A.bind_ret']
      exact H _ _ (nil (Nat.eq_of_beq_eq_true h1))
theorem fits2_ok {a b : Nat} (e : fits2 a b = true) : fits a b = true := by
  have e1 : Nat.ble a 281474976710656 = true := by
    unfold fits2 at e
    split at e
    · assumption
    · cases e
  have e2 : Nat.ble (a * b) 140737488355328 = true := by
    unfold fits2 at e
    rw [e1] at e; exact e
  unfold fits
  rw [show (2 : Nat) ^ 48 = 281474976710656 by simp, show (2 : Nat) ^ 47 = 140737488355328 by simp, e1, e2]
  rfl
theorem Cel.cat {n k : Nat} {r x : Rp V} {cs xs : List AV} (g : Cel ρ n r cs) (gx : Cel ρ k x xs) : Cel ρ (n + k) (Rp.cat n r x) (cs ++ xs) := by
  obtain ⟨h1, h2⟩ := Rp.cat_ok g.ok gx.ok (n := n) (by rw [g.len]; exact g.n)
  refine ⟨h1, by rw [List.length_append, ← g.n, ← gx.n], ?_, by rw [List.all_append, g.one, gx.one]; rfl⟩
  rw [h2]; exact VRs.app g.vs gx.vs
theorem MR.drop {b : Pa} (hm : MR ρ m nx h) : MR ρ (Tp.put none b m) nx (h.set b.nat none) := ⟨fun p q' hq => by
  by_cases e : p = b
  · subst e
    rw [Tp.get_put_same] at hq; cases hq
  · rw [Tp.get_put_ne _ _ _ _ e] at hq
    obtain ⟨h1, k', h2, h3⟩ := hm.at_ p q' hq
    refine ⟨h1, k', ?_, h3⟩
    rw [Mem.blk_set_ne _ _ _ _ (fun e' => e (Pa.nat_inj e'))]; exact h2⟩
theorem f_app {ty sz bytes n : Nat} {x : V} {a : AV} {r : Rp V} {xs : List AV} (hm : MR ρ m nx h) (hx : VR ρ x a) (g : Cel ρ (n * sz) r xs) : FitAt ρ m nx h (appv2 ty sz bytes n x r) (appA ty sz bytes n a xs) := by
  unfold appv2 appA
  cases h0 : Nat.beq n 0 with
  | true =>
    simp only
    cases hx <;> first | exact FitAt.fail | skip
    · exact FitAt.done hm (.slc _ _ _ _)
    · exact FitAt.done hm .nils
  | false =>
    simp only
    cases hx <;> first | exact FitAt.fail | skip
    · rename_i p o l c
      cases c with
      | some c =>
        simp only
        cases h1 : Nat.ble (Nat.add l n) c with
        | true =>
          have h1' : Nat.ble (l + n) c = true := h1
          simp only [h1']
          refine FitAt.rd hm fun q k hq hb hk hr => ?_
          cases q with
          | fr r => exact FitAt.fail
          | mp ck es => exact FitAt.fail
          | mk ty' sz' own grow l' cs =>
            cases own with
            | false => exact FitAt.fail
            | true =>
              obtain ⟨gc, o1, o2, o3, o4⟩ := hr.cel
              simp only
              cases h2 : Nat.ble (Nat.add o (Nat.mul (Nat.add l n) sz)) l' with
              | false => exact FitAt.fail
              | true =>
                have hl : o + (l + n) * sz ≤ l' := Nat.le_of_ble_eq_true h2
                have e2 : (Nat.ble (o + (l + n) * sz) k.cells.length && xs.all AV.one) = true := by
                  rw [Nat.ble_eq_true_of_le (by rw [← gc.n]; exact hl), g.one]; rfl
                simp only [e2]
                have hl2 : o + l * sz + n * sz ≤ l' := by rw [Nat.add_mul] at hl; omega
                rw [withR_eq]
                refine FitAt.wr hm hb hk o1 ?_ ((gc.ov g hl2).at o1 o2 o3 o4) fun m' h' hm' => FitAt.done hm' (.slc _ _ _ _)
                rw [lay_len (by rw [← g.n, ← gc.n]; exact hl2)]
        | false =>
          have h1' : Nat.ble (l + n) c = false := h1
          simp only [h1']
          cases h3 : fits2 (Nat.add l n) bytes with
          | false => exact FitAt.fail
          | true =>
            have h3' : fits (l + n) bytes = true := fits2_ok h3
            simp only [h3']
            refine FitAt.rd hm fun q k hq hb hk hr => ?_
            cases q with
            | fr r => exact FitAt.fail
            | mp ck es => exact FitAt.fail
            | mk ty' sz' own grow l' cs =>
              obtain ⟨gc, o1, o2, o3, o4⟩ := hr.cel
              simp only
              cases h2 : Nat.ble (Nat.add o (Nat.mul l sz)) l' with
              | false => exact FitAt.fail
              | true =>
                have hl : o + l * sz ≤ l' := Nat.le_of_ble_eq_true h2
                rw [sub_some (by rw [← gc.n]; exact hl), A.bind_opt]
                have gn := (gc.sub hl).cat g
                rw [← Nat.add_mul] at gn
                exact f_new (f := fun b => .slc b 0 (Nat.add l n) none) (g := fun b => .slc b 0 (l + n) none) hm gn true (.slc _ _ _ _)
      | none =>
        simp only
        refine FitAt.rd hm fun q k hq hb hk hr => ?_
        cases q with
        | fr r => exact FitAt.fail
        | mp ck es => exact FitAt.fail
        | mk ty' sz' own grow l' cs =>
          cases own with
          | false => exact FitAt.fail
          | true =>
          cases grow with
          | false => exact FitAt.fail
          | true =>
            obtain ⟨gc, o1, o2, o3, o4⟩ := hr.cel
            simp only
            cases hz : Nat.beq sz' sz with
            | false => exact FitAt.fail
            | true =>
              have e1 : (k.grow && Nat.beq k.sz sz) = true := by rw [o2, o3, hz]; rfl
              simp only [e1, g.one]
              cases h2 : Nat.ble (Nat.add o (Nat.mul (Nat.add l n) sz)) l' with
              | true =>
                have hl : o + (l + n) * sz ≤ l' := Nat.le_of_ble_eq_true h2
                have e2 : Nat.ble (o + (l + n) * sz) k.cells.length = true := Nat.ble_eq_true_of_le (by rw [← gc.n]; exact hl)
                simp only [e2]
                have hl2 : o + l * sz + n * sz ≤ l' := by rw [Nat.add_mul] at hl; omega
                rw [withR_eq]
                refine FitAt.wr hm hb hk o1 ?_ ((gc.ov g hl2).at o1 o2 o3 o4) fun m' h' hm' => FitAt.done hm' (.slc _ _ _ _)
                rw [lay_len (by rw [← g.n, ← gc.n]; exact hl2)]
              | false =>
                have e2 : Nat.ble (o + (l + n) * sz) k.cells.length = false := by rw [← gc.n]; exact h2
                simp only [e2]
                cases h3 : fits2 (Nat.add l n) bytes with
                | false => exact FitAt.fail
                | true =>
                  have h3' : fits (l + n) bytes = true := fits2_ok h3
                  simp only [h3']
                  cases h4 : Nat.ble (Nat.add o (Nat.mul l sz)) l' with
                  | false => exact FitAt.fail
                  | true =>
                    have hl : o + l * sz ≤ l' := Nat.le_of_ble_eq_true h4
                    rw [sub_some (by rw [← gc.n]; exact hl), A.bind_opt]
                    have gn := (gc.sub hl).cat g
                    rw [← Nat.add_mul] at gn
                    intro lg tc wr κ e
                    simp only at e
                    rw [setO_eq] at e
                    have fit := f_new (ty := ty') (sz := sz') (f := fun b => V.slc b 0 (Nat.add l n) none) (g := fun b => AV.slc b 0 (l + n) none) (hm.drop (b := p)) gn true (.slc _ _ _ _)
                    obtain ⟨v, m', nx', tc', wr', hκ, s, q1, q2, q3, q4, q5, q6⟩ := fit lg (tch lg p tc) (tch lg p wr) κ e
                    have q1' : (fun b => A.ret (AV.slc b 0 (l + n) none)) nx.nat ((h.set p.nat none).set nx.nat (some ⟨ty', sz', true, true, List.take (l * sz) (List.drop o k.cells) ++ xs⟩)) (nx.nat + 1) lg = some s := by
                      simp only [A.bind, newBlk] at q1
                      simp only [A.ret, Nat.or_zero] at q1 ⊢
                      exact q1
                    refine ⟨v, m', nx', tc', wr', hκ, ⟨s.v, s.h, s.nx, bit lg p.nat ||| s.tc, bit lg p.nat ||| s.wr⟩, ?_, q2, q3, q4, by rw [q5, tch_eq, Nat.or_assoc], by rw [q6, tch_eq, Nat.or_assoc]⟩
                    have e5 : (k.own && k.grow) = true := by rw [o1, o2]; rfl
                    simp only [A.bind, movBlk, blt_of_lt hb, hk, e5, o3, o4, q1']
    · simp only
      cases h3 : fits2 n bytes with
      | false => exact FitAt.fail
      | true =>
        have h3' := fits2_ok h3
        simp only [h3']
        exact f_new (f := fun b => .slc b 0 n none) (g := fun b => .slc b 0 n none) hm g true (.slc _ _ _ _)
end
end Go.Proofs.YtamfoplfbidolaaGreatDoorX
/- The second executor: slices, copies, maps, calls. -/
namespace Go.Proofs.YtamfoplfbidolaaGreatDoorX
open Go Go.Proofs.YtamfoplfbidolaaGreatDoorE Go.Proofs.YtamfoplfbidolaaGreatDoorB
set_option linter.unusedVariables false
set_option linter.unusedSimpArgs false

section
variable {ρ : Nat → Int} {m : Tm} {nx : Pa} {h : Mem}
/-- An operand that need not be there. -/
inductive OR (ρ : Nat → Int) : Option V → Option AV → Prop
  | none : OR ρ none none
  | some (v : V) (a : AV) (g : VR ρ v a) : OR ρ (some v) (some a)
theorem bnd2_ok {d lim n : Nat} {o : Option V} {p : Option AV} (g : OR ρ o p) (e : bnd2 d lim o = some n) : bnd d lim p = some n := by
  cases g with
  | none => exact e
  | some v a g =>
    cases g <;> simp only [bnd2] at e <;> first | (cases e; done) | skip
    exact toNleF_ok e
theorem f_app2 {ty sz bytes : Nat} {x y : V} {a b : AV} (hm : MR ρ m nx h) (hx : VR ρ x a) (hy : VR ρ y b) :
    FitAt ρ m nx h (app2 ty sz bytes x y) (match (generalizing := false) lenA b with | some n => A.bind (rdEls sz n b) fun xs => appA ty sz bytes n a xs | none => A.fail) := by
  have hl : ∀ n, lenA2 y = some n → lenA b = some n := fun n e => by
    cases hy <;> simp only [lenA2] at e <;> first | (cases e; done) | exact e
  unfold app2
  cases h1 : lenA2 y with
  | none => exact FitAt.fail
  | some n =>
    rw [hl n h1]
    exact f_rdEls hm hy fun r xs g => f_app hm hx g
theorem f_slstr {x : V} {a : AV} {lo hi : Option V} {lo' hi' : Option AV} (hm : MR ρ m nx h) (hx : VR ρ x a) (hl : OR ρ lo lo') (hh : OR ρ hi hi') :
    FitAt ρ m nx h (slstr2 x lo hi) (match (generalizing := false) a with
      | .str s => match bnd s.size s.size hi' with
        | some h => match bnd 0 h lo' with
          | some l => A.ret (.str (s.extract l h))
          | none => A.fail
        | none => A.fail
      | _ => A.fail) := by
  cases hx <;> first | exact FitAt.fail | skip
  rename_i s
  unfold slstr2
  simp only
  cases h1 : bnd2 s.size s.size hi with
  | none => exact FitAt.fail
  | some e =>
    rw [bnd2_ok hh h1]
    simp only
    cases h2 : bnd2 0 e lo with
    | none => exact FitAt.fail
    | some l =>
      rw [bnd2_ok hl h2]
      exact FitAt.done hm (.str _)
/-- Three bounds. -/
theorem bnds_ok {n c a b d : Nat} {lo hi mx : Option V} {lo' hi' mx' : Option AV} (hl : OR ρ lo lo') (hh : OR ρ hi hi') (hx : OR ρ mx mx') (e : bnds n c lo hi mx = some (a, b, d)) : bnd c c mx' = some d ∧ bnd n d hi' = some b ∧ bnd 0 b lo' = some a := by
  unfold bnds at e
  cases h1 : bnd2 c c mx with
  | none => rw [h1] at e; cases e
  | some m =>
    rw [h1] at e; simp only at e
    cases h2 : bnd2 n m hi with
    | none => rw [h2] at e; cases e
    | some q =>
      rw [h2] at e; simp only at e
      cases h3 : bnd2 0 q lo with
      | none => rw [h3] at e; cases e
      | some l =>
        rw [h3] at e; cases e
        exact ⟨bnd2_ok hx h1, bnd2_ok hh h2, bnd2_ok hl h3⟩
theorem f_slice {sz : Nat} {x : V} {a : AV} {lo hi mx : Option V} {lo' hi' mx' : Option AV} (hm : MR ρ m nx h) (hx : VR ρ x a) (hl : OR ρ lo lo') (hh : OR ρ hi hi') (hmx : OR ρ mx mx') :
    FitAt ρ m nx h (slice2 sz x lo hi mx) (match (generalizing := false) a with
    | .nils => match bnd 0 0 mx' with
      | some m => match bnd 0 m hi' with
        | some h => match bnd 0 h lo' with
          | some _ => A.ret .nils
          | none => A.fail
        | none => A.fail
      | none => A.fail
    | .slc b o n (some c) => match bnd c c mx' with
      | some m => match bnd n m hi' with
        | some h => match bnd 0 h lo' with
          | some l => A.ret (.slc b (o + l * sz) (h - l) (some (m - l)))
          | none => A.fail
        | none => A.fail
      | none => A.fail
    | .slc b o n none => A.bind (rdBlk b) fun k => match k.grow && Nat.blt 0 sz && Nat.beq k.sz sz with
        | false => A.fail
        | true => match (generalizing := false) mx' with
          | some x => match bnd 0 ((k.cells.length - o) / sz) (some x) with
            | some m => match bnd n m hi' with
              | some h => match bnd 0 h lo' with
                | some l => A.ret (.slc b (o + l * sz) (h - l) (some (m - l)))
                | none => A.fail
              | none => A.fail
            | none => A.fail
          | none => match bnd n ((k.cells.length - o) / sz) hi' with
            | some h => match bnd 0 h lo' with
              | some l => A.ret (.slc b (o + l * sz) (h - l) none)
              | none => A.fail
            | none => A.fail
    | _ => A.fail) := by
  cases hx <;> first | exact FitAt.fail | skip
  · rename_i p o n c
    cases c with
    | some c =>
      unfold slice2
      simp only
      cases h1 : bnds n c lo hi mx with
      | none => exact FitAt.fail
      | some q =>
        obtain ⟨l, e, d⟩ := q
        obtain ⟨q1, q2, q3⟩ := bnds_ok hl hh hmx h1
        rw [q1]; simp only
        rw [q2]; simp only
        rw [q3]
        exact FitAt.done hm (.slc _ _ _ _)
    | none =>
      unfold slice2
      simp only
      refine FitAt.rd hm fun q k hq hb hk hr => ?_
      cases q with
      | fr r => exact FitAt.fail
      | mp ck es => exact FitAt.fail
      | mk ty sz' own grow l' cs =>
        cases grow with
        | false => exact FitAt.fail
        | true =>
          obtain ⟨gc, o1, o2, o3, o4⟩ := hr.cel
          simp only
          cases hz : Nat.blt 0 sz with
          | false => exact FitAt.fail
          | true =>
            simp only
            cases hs : Nat.beq sz' sz with
            | false => exact FitAt.fail
            | true =>
              have e1 : (k.grow && Nat.blt 0 sz && Nat.beq k.sz sz) = true := by rw [o2, o3, hz, hs]; rfl
              rw [hz] at e1
              simp only [e1]
              cases hmx with
              | none =>
                simp only
                cases h1 : bnds n (Nat.div (Nat.sub l' o) sz) lo hi none with
                | none => exact FitAt.fail
                | some q =>
                  obtain ⟨a, e, d⟩ := q
                  obtain ⟨q1, q2, q3⟩ := bnds_ok hl hh .none h1
                  have hd : (k.cells.length - o) / sz = d := by
                    simp only [bnd, Option.some.injEq] at q1
                    rw [← gc.n]; exact q1
                  rw [hd, q2]; simp only
                  rw [q3]
                  exact FitAt.done hm (.slc _ _ _ _)
              | some v a g =>
                simp only
                cases h1 : bnds n (Nat.div (Nat.sub l' o) sz) lo hi (some v) with
                | none => exact FitAt.fail
                | some q =>
                  obtain ⟨a', e, d⟩ := q
                  obtain ⟨q1, q2, q3⟩ := bnds_ok hl hh (.some v a g) h1
                  have q1' : bnd 0 ((k.cells.length - o) / sz) (some a) = some d := by
                    rw [← gc.n]
                    cases a <;> simp only [bnd] at q1 ⊢ <;> first | exact q1 | (cases q1; done)
                  rw [q1']; simp only
                  rw [q2]; simp only
                  rw [q3]
                  exact FitAt.done hm (.slc _ _ _ _)
  · unfold slice2
    simp only
    cases h1 : bnds 0 0 lo hi mx with
    | none => exact FitAt.fail
    | some q =>
      obtain ⟨l, e, d⟩ := q
      obtain ⟨q1, q2, q3⟩ := bnds_ok hl hh hmx h1
      rw [q1]; simp only
      rw [q2]; simp only
      rw [q3]
      exact FitAt.done hm .nils
theorem f_slarr {len sz : Nat} {x : V} {a : AV} {lo hi mx : Option V} {lo' hi' mx' : Option AV} (hm : MR ρ m nx h) (hx : VR ρ x a) (hl : OR ρ lo lo') (hh : OR ρ hi hi') (hmx : OR ρ mx mx') :
    FitAt ρ m nx h (slarr2 len sz x lo hi mx) (match (generalizing := false) a with
    | .ptr b o => match bnd len len mx' with
      | some m => match bnd len m hi' with
        | some h => match bnd 0 h lo' with
          | some l => A.ret (.slc b (o + l * sz) (h - l) (some (m - l)))
          | none => A.fail
        | none => A.fail
      | none => A.fail
    | _ => A.fail) := by
  cases hx <;> first | exact FitAt.fail | skip
  unfold slarr2
  simp only
  cases h1 : bnds len len lo hi mx with
  | none => exact FitAt.fail
  | some q =>
    obtain ⟨l, e, d⟩ := q
    obtain ⟨q1, q2, q3⟩ := bnds_ok hl hh hmx h1
    rw [q1]; simp only
    rw [q2]; simp only
    rw [q3]
    exact FitAt.done hm (.slc _ _ _ _)
theorem Cel.rep {n c : Nat} {z : Rp V} {zs : List AV} (g : Cel ρ n z zs) (hc : c ≤ 4294967295) : Cel ρ (Nat.mul c n) (Rp.rep n z 64 c) (reps c zs) := by
  obtain ⟨h1, h2⟩ := Rp.rep_ok g.ok (sz := n) (by rw [g.len]; exact g.n.symm) c (by omega)
  have hl : ∀ c, (reps c zs).length = c * n := fun c => by
    induction c with
    | zero => simp [reps]
    | succ c ih => simp only [reps, List.length_append, ih, ← g.n, Nat.succ_mul]; omega
  have ho : ∀ c, (reps c zs).all AV.one = true := fun c => by
    induction c with
    | zero => rfl
    | succ c ih => simp only [reps, List.all_append, ih, g.one, Bool.and_self]
  exact ⟨h1, (hl c).symm, by rw [h2]; exact VRs.reps g.vs c, ho c⟩
theorem toN_at {L c : Nat} (h : c < L) : toN L (Int.ofNat c) = some c := by
  unfold toN
  have h1 : (0 : Int) ≤ Int.ofNat c := Int.natCast_nonneg c
  have h2 : Int.ofNat c < (L : Int) := Int.ofNat_lt.2 h
  rw [decide_eq_true h1, decide_eq_true h2]
  rfl
theorem f_appz {ty sz bytes n : Nat} {z : Rp V} {zs : List AV} {x y : V} {a b : AV} (hm : MR ρ m nx h) (hz : Cel ρ n z zs) (hx : VR ρ x a) (hy : VR ρ y b) :
    FitAt ρ m nx h (appz2 ty sz bytes n z x y) (match (generalizing := false) b with
      | .int _ c => match toN 281474976710656 c with
        | some c => match Nat.ble (c * bytes) 281474976710656 with
          | true => appA ty sz bytes c a (reps c zs)
          | false => A.fail
        | none => A.fail
      | _ => A.fail) := by
  cases hy <;> first | exact FitAt.fail | skip
  rename_i k c
  unfold appz2
  simp only
  cases h1 : toNleF 4294967295 c with
  | none => exact FitAt.fail
  | some c' =>
    have hc : c = Int.ofNat c' ∧ c' ≤ 4294967295 := by
      cases c with
      | negSucc q => cases h1
      | ofNat q =>
        unfold toNleF at h1
        simp only at h1
        cases hb : Nat.ble q 4294967295 <;> rw [hb] at h1 <;> cases h1
        exact ⟨rfl, Nat.le_of_ble_eq_true hb⟩
    have h1' : toN 281474976710656 c = some c' := by
      rw [hc.1]
      exact toN_at (Nat.lt_of_le_of_lt hc.2 (by simp))
    rw [h1']; simp only
    cases hb : Nat.beq n sz with
    | false => exact FitAt.fail
    | true =>
      have hn := Nat.eq_of_beq_eq_true hb
      subst hn
      simp only
      cases hb2 : Nat.ble (Nat.mul c' bytes) 281474976710656 with
      | false => exact FitAt.fail
      | true =>
        exact f_app hm hx (hz.rep hc.2)
theorem f_mksl {ty sz bytes n : Nat} {z : Rp V} {zs : List AV} {x y : V} {a b : AV} (hm : MR ρ m nx h) (hz : Cel ρ n z zs) (hx : VR ρ x a) (hy : VR ρ y b) :
    FitAt ρ m nx h (mksl2 ty sz bytes n z x y) (match (generalizing := false) a, b with
      | .int _ l, .int _ c => match toNle (2 ^ 46) c with
        | some c => match toNle c l with
          | some l => match Nat.ble (bytes * c) (2 ^ 46) with
            | true => A.bind (newBlk ty sz false (reps c zs)) fun b => A.ret (.slc b 0 l (some c))
            | false => A.fail
          | none => A.fail
        | none => A.fail
      | _, _ => A.fail) := by
  cases hx <;> first | exact FitAt.fail | skip
  cases hy <;> first | exact FitAt.fail | skip
  rename_i k l k' c
  unfold mksl2
  simp only
  cases h1 : toNleF 4294967295 c with
  | none => exact FitAt.fail
  | some c' =>
    have hc : c = Int.ofNat c' ∧ c' ≤ 4294967295 := by
      cases c with
      | negSucc q => cases h1
      | ofNat q =>
        unfold toNleF at h1
        simp only at h1
        cases hb : Nat.ble q 4294967295 <;> rw [hb] at h1 <;> cases h1
        exact ⟨rfl, Nat.le_of_ble_eq_true hb⟩
    have h1' : toNle (2 ^ 46) c = some c' := by
      rw [hc.1]
      unfold toNle
      have : (2 : Nat) ^ 46 = 70368744177664 := by simp
      rw [decide_eq_true (by simp), decide_eq_true (by rw [this]; simp only [Int.ofNat_eq_natCast]; omega)]
      rfl
    rw [h1']; simp only
    cases h2 : toNleF c' l with
    | none => exact FitAt.fail
    | some l' =>
      rw [toNleF_ok h2]; simp only
      cases h3 : Nat.ble (Nat.mul bytes c') 70368744177664 with
      | false => exact FitAt.fail
      | true =>
        have h3' : Nat.ble (bytes * c') (2 ^ 46) = true := by rw [show (2 : Nat) ^ 46 = 70368744177664 by simp]; exact h3
        exact f_new (f := fun b => .slc b 0 l' (some c')) (g := fun b => .slc b 0 l' (some c')) hm (hz.rep hc.2) false (.slc _ _ _ _)
theorem f_copy {sz : Nat} {x y : V} {a b : AV} (hm : MR ρ m nx h) (hx : VR ρ x a) (hy : VR ρ y b) :
    FitAt ρ m nx h (copy2 sz x y) (match (generalizing := false) lenA a, lenA b with
    | some dn, some sn => A.bind (rdEls sz (min sn dn) b) fun xs =>
      match (generalizing := false) a with
      | .slc b o _ _ => A.bind (rdBlk b) fun k => match Nat.ble (o + min sn dn * sz) k.cells.length && xs.all AV.one with
        | true => A.bind (wrBlk b (lay k.cells o xs)) fun _ => A.ret (.int .i64 ((min sn dn : Nat) : Int))
        | false => A.fail
      | .nils => A.ret (.int .i64 0)
      | _ => A.fail
    | _, _ => A.fail) := by
  have hl : ∀ {y : V} {b : AV}, VR ρ y b → ∀ n, lenA2 y = some n → lenA b = some n := fun {y b} hy n e => by
    cases hy <;> simp only [lenA2] at e <;> first | (cases e; done) | exact e
  unfold copy2
  cases h1 : lenA2 x with
  | none => exact FitAt.fail
  | some dn =>
    cases h2 : lenA2 y with
    | none => exact FitAt.fail
    | some sn =>
      rw [hl hx dn h1, hl hy sn h2]
      simp only
      refine f_rdEls hm hy fun r xs g => ?_
      cases hx <;> first | exact FitAt.fail | skip
      · rename_i p o l c
        simp only
        refine FitAt.rd hm fun q k hq hb hk hr => ?_
        cases q with
        | fr r => exact FitAt.fail
        | mp ck es => exact FitAt.fail
        | mk ty' sz' own grow l' cs =>
          cases own with
          | false => exact FitAt.fail
          | true =>
            obtain ⟨gc, o1, o2, o3, o4⟩ := hr.cel
            simp only
            cases h4 : Nat.ble (Nat.add o (Nat.mul (min sn dn) sz)) l' with
            | false => exact FitAt.fail
            | true =>
              have hle : o + min sn dn * sz ≤ l' := Nat.le_of_ble_eq_true h4
              have e2 : (Nat.ble (o + min sn dn * sz) k.cells.length && xs.all AV.one) = true := by
                rw [Nat.ble_eq_true_of_le (by rw [← gc.n]; exact hle), g.one]; rfl
              simp only [e2]
              refine FitAt.wr hm hb hk o1 (by rw [lay_len (by rw [← g.n, ← gc.n]; exact hle)]) ?_ fun m' h' hm' => FitAt.done hm' (.int _ _)
              cases h5 : Nat.beq (min sn dn) 0 with
              | false => exact (gc.ov g hle).at o1 o2 o3 o4
              | true =>
                have h0 := Nat.eq_of_beq_eq_true h5
                have hx0 : xs = [] := List.length_eq_zero_iff.1 (by have := g.n; rw [h0] at this; simpa using this.symm)
                have : lay k.cells o xs = k.cells := by rw [hx0]; unfold lay; simp
                rw [this]
                exact gc.at o1 o2 o3 o4
      · exact FitAt.done hm (.int _ _)
theorem f_cap {x : V} {a : AV} (hm : MR ρ m nx h) (hx : VR ρ x a) : FitAt ρ m nx h (cap2 x) (match (generalizing := false) a with | .slc _ _ _ (some c) => A.ret (.int .i64 c) | .nils => A.ret (.int .i64 0) | _ => A.fail) := by
  cases hx <;> first | exact FitAt.fail | skip
  · rename_i p o n c
    cases c with
    | none => exact FitAt.fail
    | some c => exact FitAt.done hm (.int _ _)
  · exact FitAt.done hm (.int _ _)
/-! ### Maps -/
theorem MRs.len {es : List (V × V × Int)} {cs : List AV} (g : MRs ρ es cs) : cs.length = 3 * lenM es := by
  induction g with
  | nil => rfl
  | cons k v s es a b cs hk hv h ih => simp only [List.length_cons, ih, lenM]; omega
theorem BR.mp_inv {ck : Int} {es : List (V × V × Int)} {k : Blk} (g : BR ρ (.mp ck es) k) : ∃ cs, k.cells = .int .i64 ck :: cs ∧ MRs ρ es cs ∧ k.own = true ∧ ∀ ck' es' cs', MRs ρ es' cs' → BR ρ (.mp ck' es') { k with cells := .int .i64 ck' :: cs' } := by
  cases g with
  | mp ty sz grow ck es cs h => exact ⟨cs, rfl, h, rfl, fun ck' es' cs' h' => .mp ty sz grow ck' es' cs' h'⟩
theorem f_mkm (hm : MR ρ m nx h) : FitAt ρ m nx h (newB (.mp 0 []) fun b => done (.map b)) (A.bind (newBlk 0 0 false [.int .i64 0]) fun b => A.ret (.map b)) :=
  FitAt.new hm (.mp 0 0 false 0 [] [] .nil) fun m' h' hm' => FitAt.done hm' (.map _)
theorem FitAt.rdM {b : Pa} {f : Int → List (V × V × Int) → K2} {g : Blk → A AV} (hm : MR ρ m nx h)
    (H : ∀ ck es k cs, b.nat < nx.nat → h.blk b.nat = some k → k.own = true → k.cells = .int .i64 ck :: cs → MRs ρ es cs → (∀ ck' es' cs', MRs ρ es' cs' → BR ρ (.mp ck' es') { k with cells := .int .i64 ck' :: cs' }) → FitAt ρ m nx h (f ck es) (g k)) :
    FitAt ρ m nx h (withM b f) (A.bind (rdBlk b.nat) g) := by
  refine FitAt.rd hm fun q k hq hb hk hr => ?_
  cases q with
  | fr r => exact FitAt.fail
  | mk ty sz own grow l cs => exact FitAt.fail
  | mp ck es =>
    obtain ⟨cs, e1, e2, e3, e4⟩ := hr.mp_inv
    exact H ck es k cs hb hk e3 e1 e2 e4
theorem f_mlen {x : V} {a : AV} (hm : MR ρ m nx h) (hx : VR ρ x a) : FitAt ρ m nx h (mlen2 x) (match (generalizing := false) a with | .nilm => A.ret (.int .i64 0) | .map b => A.bind (rdBlk b) fun k => A.ret (.int .i64 ((k.cells.length / 3 : Nat) : Int)) | _ => A.fail) := by
  cases hx <;> first | exact FitAt.fail | skip
  · refine FitAt.rdM hm fun ck es k cs hb hk ho hc hr _ => ?_
    have : k.cells.length / 3 = lenM es := by rw [hc, List.length_cons, hr.len]; omega
    rw [this]
    exact FitAt.done hm (.int _ _)
  · exact FitAt.done hm (.int _ _)
theorem allI_ints {vs : List V} {as : List AV} (h : VRs ρ vs as) : allI vs = true → ∀ j, j < as.length → ∃ k n, as[j]? = some (.int k n) := by
  induction as generalizing vs with
  | nil => intro _ j hj; simp at hj
  | cons a as ih =>
    cases h with
    | cons v a vs as hv ht =>
      intro e j hj
      cases v <;> simp only [allI] at e <;> first | (cases e; done) | skip
      cases hv
      cases j with
      | zero => exact ⟨_, _, rfl⟩
      | succ j => simpa using ih ht e j (by simpa using hj)
theorem flatI_cons {o k i : Nat} {q : EqK} {r : List (Nat × Nat × EqK)} (h : flatI ((o, k, q) :: r) i = true) : q = .i ∧ o = i ∧ k = 1 ∧ flatI r (i + 1) = true := by
  cases q <;> simp only [flatI] at h <;> first | (cases h; done) | skip
  cases h1 : Nat.beq o i <;> rw [h1] at h <;> simp only at h <;> first | (cases h; done) | skip
  cases h2 : Nat.beq k 1 <;> rw [h2] at h <;> simp only at h <;> first | (cases h; done) | skip
  exact ⟨rfl, Nat.eq_of_beq_eq_true h1, Nat.eq_of_beq_eq_true h2, h⟩
theorem flatI_key {cs : List AV} (hc : ∀ j, j < cs.length → ∃ k n, cs[j]? = some (.int k n)) : ∀ (fs : List (Nat × Nat × EqK)) (i : Nat), flatI fs i = true → i + fs.length = cs.length → keyFs fs cs = true
  | [], i, _, _ => by simp only [keyFs]
  | (o, k, q) :: r, i, h, hl => by
    obtain ⟨rfl, rfl, rfl, h9⟩ := flatI_cons h
    obtain ⟨k, n, e⟩ := hc o (by simp at hl; omega)
    have e' : partK .i cs o 1 = some (.int k n) := e
    simp only [keyFs, e', keyA, Bool.true_and]
    exact flatI_key hc r (o + 1) h9 (by simp at hl; omega)
theorem flatI_same {as bs : List AV} (hc : ∀ j, j < as.length → ∃ k n, as[j]? = some (.int k n)) (hl' : bs.length = as.length) : ∀ (fs : List (Nat × Nat × EqK)) (i : Nat), flatI fs i = true → i + fs.length = as.length → eqFs fs as bs = some true → sameL (bs.drop i) (as.drop i) = true
  | [], i, _, hl, _ => by
    rw [List.drop_of_length_le (by simp at hl; omega), List.drop_of_length_le (by simp at hl; omega)]; rfl
  | (o, k, q) :: r, i, h, hl, e => by
    obtain ⟨rfl, rfl, rfl, h9⟩ := flatI_cons h
    have hlt : o < as.length := by simp at hl; omega
    obtain ⟨k, n, ea⟩ := hc o hlt
    have ea' : partK .i as o 1 = some (.int k n) := ea
    have hb : o < bs.length := by omega
    have eb' : partK .i bs o 1 = some bs[o] := List.getElem?_eq_getElem hb
    simp only [eqFs, ea', eb', eqA] at e
    cases hq : eqI (.int k n) bs[o] with
    | none => rw [hq] at e; cases e
    | some t =>
      rw [hq] at e
      cases t with
      | false => cases e
      | true =>
        simp only at e
        have ih := flatI_same hc hl' r (o + 1) h9 (by simp at hl; omega) e
        rw [List.drop_eq_getElem_cons hb, List.drop_eq_getElem_cons hlt]
        have ea2 : as[o] = .int k n := by rw [List.getElem?_eq_getElem hlt] at ea; exact Option.some.inj ea
        rw [ea2]
        simp only [sameL, ih, Bool.and_true]
        generalize bs[o] = y at hq
        cases y <;> simp only [eqI] at hq <;> first | (cases hq; done) | skip
        rename_i k' n'
        by_cases hk : k = k'
        · rw [decide_eq_true hk] at hq
          simp only [Option.some.injEq, beq_iff_eq] at hq
          simp only [sameC, hk, hq, decide_true, beq_self_eq_true, Bool.and_self]
        · rw [decide_eq_false hk] at hq; cases hq
theorem key2_st {fs : List (Nat × Nat × EqK)} {n : Nat} {r : Rp V} (e : key2 (.st fs) (.agg n r) = true) : n = fs.length ∧ flatI fs 0 = true ∧ allI r.list = true := by
  simp only [key2] at e
  cases h1 : Nat.beq n fs.length <;> rw [h1] at e <;> simp only at e <;> first | (cases e; done) | skip
  cases h2 : flatI fs 0 <;> rw [h2] at e <;> simp only at e <;> first | (cases e; done) | skip
  exact ⟨Nat.eq_of_beq_eq_true h1, rfl, e⟩
theorem key2_ok {q : EqK} {x : V} {a : AV} (hx : VR ρ x a) (e : key2 q x = true) : keyA q a = true := by
  cases q <;> cases hx <;> first | (simp only [key2] at e; cases e; done) | (simp only [keyA]; done) | rfl | skip
  rename_i fs n r cs h hn h' ho
  obtain ⟨h1, h2, h3⟩ := key2_st e
  simp only [keyA]
  exact flatI_key (allI_ints h' h3) fs 0 h2 (by omega)
theorem key2_same {q : EqK} {x y : V} {a b : AV} (hx : VR ρ x a) (hy : VR ρ y b) (e : key2 q x = true) (h1 : eq2 q x y = some true) : sameA b a = true := by
  have h2 := eq2_ok q hx hy h1
  cases q <;> cases hx <;> first | (simp only [key2] at e; cases e; done) | skip
  · simp only [eqA] at h2
    cases b <;> simp only [eqB] at h2 <;> first | (cases h2; done) | skip
    simp only [sameA, sameC]
    simp only [Option.some.injEq, beq_iff_eq] at h2
    rw [h2]; simp
  · simp only [eqA] at h2
    cases b <;> simp only [eqI] at h2 <;> first | (cases h2; done) | skip
    rename_i k n k' n'
    by_cases hk : k = k'
    · rw [decide_eq_true hk] at h2
      simp only [Option.some.injEq, beq_iff_eq] at h2
      simp only [sameA, sameC, hk, h2, decide_true, beq_self_eq_true, Bool.and_self]
    · rw [decide_eq_false hk] at h2; cases h2
  · simp only [eqA] at h2
    cases b <;> simp only [eqS] at h2 <;> first | (cases h2; done) | skip
    simp only [Option.some.injEq] at h2
    simp only [sameA, sameC]
    exact (MapKept.bytes_beq _ _).2 ((MapKept.bytes_beq _ _).1 h2).symm
  · rename_i fs n r cs h hn h' ho
    obtain ⟨k1, k2, k3⟩ := key2_st e
    obtain ⟨n1, xs, n', ys, he, rfl, h9, hnn⟩ := eq2_st h1
    cases he
    obtain ⟨ds, rfl, g2⟩ := hy.aggC
    simp only [eqA] at h2
    simp only [sameA]
    have := g2.n
    exact flatI_same (bs := ds) (allI_ints h' k3) (by omega) fs 0 k2 (by omega) h2
/-- Where a key is. -/
theorem find2_ok {q : EqK} {x : V} {a : AV} (hx : VR ρ x a) : ∀ {es : List (V × V × Int)} {cs : List AV} (i0 : Nat) {r : Option (V × Int)}, MRs ρ es cs → find2 q x es = some r →
    match r with
    | none => findA q a cs i0 = some none
    | some (v, s) => ∃ j b, findA q a cs i0 = some (some (i0 + 3 * j, b)) ∧ VR ρ v b ∧ cs[3 * j + 2]? = some (.int .i64 s) ∧ (key2 q x = true → sameA (cs.getD (3 * j) .nilm) a = true) ∧
        (∀ w c, VR ρ w c → MRs ρ (setK q x w es) (cs.set (3 * j + 1) c)) ∧ MRs ρ (delK q x es) (cs.take (3 * j) ++ cs.drop (3 * j + 3))
  | _, _, i0, r, .nil, e => by cases e; rfl
  | _, _, i0, r, .cons k v s es b c cs hk hv t, e => by
    simp only [find2] at e
    cases h1 : eq2 q x k with
    | none => rw [h1] at e; cases e
    | some t1 =>
      rw [h1] at e
      have h2 := eq2_ok q hx hk h1
      cases t1 with
      | true =>
        cases e
        refine ⟨0, c, by simp only [findA, h2]; rfl, hv, rfl, fun hq => key2_same hx hk hq h1, fun w c' hw => ?_, ?_⟩
        · simp only [setK, h1]
          exact .cons k w s es b c' cs hk hw t
        · simp only [delK, h1]
          exact t
      | false =>
        simp only at e
        have ih := find2_ok hx (i0 + 3) t e
        cases r with
        | none => simp only [findA, h2]; exact ih
        | some p =>
          obtain ⟨v', s'⟩ := p
          obtain ⟨j, b', g1, g2, g3, g4, g5, g6⟩ := ih
          refine ⟨j + 1, b', by simp only [findA, h2]; rw [g1]; congr 2; simp only [Prod.mk.injEq, and_true]; omega, g2, ?_, ?_, fun w c' hw => ?_, ?_⟩
          · rw [show 3 * (j + 1) + 2 = 3 * j + 2 + 1 + 1 + 1 by omega]
            simpa using g3
          · intro hq
            have := g4 hq
            rw [show 3 * (j + 1) = 3 * j + 1 + 1 + 1 by omega]
            simpa [List.getD_cons_succ] using this
          · simp only [setK, h1]
            rw [show 3 * (j + 1) + 1 = 3 * j + 1 + 1 + 1 + 1 by omega]
            simp only [List.set_cons_succ]
            exact .cons k v s _ b c _ hk hv (g5 w c' hw)
          · simp only [delK, h1]
            rw [show 3 * (j + 1) = 3 * j + 1 + 1 + 1 by omega, show 3 * j + 1 + 1 + 1 + 3 = 3 * j + 3 + 1 + 1 + 1 by omega]
            simp only [List.take_succ_cons, List.drop_succ_cons, List.cons_append]
            exact .cons k v s _ b c _ hk hv g6
theorem MRs.app {es fs : List (V × V × Int)} {cs ds : List AV} (g : MRs ρ es cs) (k : MRs ρ fs ds) : MRs ρ (es ++ fs) (cs ++ ds) := by
  induction g with
  | nil => exact k
  | cons k' v s es a b cs hk hv h ih => exact .cons k' v s _ a b _ hk hv ih
theorem ok2_vr {ok b : Bool} {v : V} {a : AV} (g : VR ρ v a) : VR ρ (ok2 ok v b) (okA ok a b) := by
  cases ok
  · exact g
  · exact .tup _ _ (.cons _ _ _ _ g (.cons _ _ _ _ (.b b) .nil))
theorem f_mget {q : EqK} {z : V} {z' : AV} {ok : Bool} {x i : V} {a b : AV} (hm : MR ρ m nx h) (hz : VR ρ z z') (hx : VR ρ x a) (hi : VR ρ i b) :
    FitAt ρ m nx h (mget2 q z ok x i) (match (generalizing := false) keyA q b with
    | false => A.fail
    | true => match (generalizing := false) a with
      | .nilm => A.ret (okA ok z' false)
      | .map c => A.bind (rdBlk c) fun k => match findA q b (k.cells.drop 1) 0 with
        | some (some (_, v)) => A.ret (okA ok v true)
        | some none => A.ret (okA ok z' false)
        | none => A.fail
      | _ => A.fail) := by
  unfold mget2
  cases hk : key2 q i with
  | false => exact FitAt.fail
  | true =>
    rw [key2_ok hi hk]
    simp only
    cases hx <;> first | exact FitAt.fail | skip
    · refine FitAt.rdM hm fun ck es k cs hb hkk ho hc hr _ => ?_
      rw [hc, List.drop_succ_cons, List.drop_zero]
      cases hf : find2 q i es with
      | none => exact FitAt.fail
      | some r =>
        have g := find2_ok hi 0 hr hf
        cases r with
        | none => simp only at g; rw [g]; exact FitAt.done hm (ok2_vr hz)
        | some p =>
          obtain ⟨v, s⟩ := p
          obtain ⟨j, b', g1, g2, _⟩ := g
          rw [g1]; exact FitAt.done hm (ok2_vr g2)
    · exact FitAt.done hm (ok2_vr hz)
theorem f_mput {q : EqK} {x i v : V} {a b c : AV} (hm : MR ρ m nx h) (hx : VR ρ x a) (hi : VR ρ i b) (hv : VR ρ v c) :
    FitAt ρ m nx h (mput2 q x i v) (match (generalizing := false) keyA q b with
    | false => A.fail
    | true => match (generalizing := false) a with
      | .map d => A.bind (rdBlk d) fun k => match findA q b (k.cells.drop 1) 0 with
        | some (some (j, _)) => match sameA (k.cells.getD (j + 1) .nilm) b with
          | true => A.bind (wrMap d (k.cells.set (j + 2) c)) fun _ => A.ret (.tup [])
          | false => A.fail
        | some none => match clockA k.cells with
          | some ck => A.bind (wrMap d (.int .i64 (ck + 1) :: (k.cells.drop 1 ++ [b, c, .int .i64 ck]))) fun _ => A.ret (.tup [])
          | none => A.fail
        | none => A.fail
      | _ => A.fail) := by
  unfold mput2
  cases hk : key2 q i with
  | false => exact FitAt.fail
  | true =>
    rw [key2_ok hi hk]
    simp only
    cases hx <;> first | exact FitAt.fail | skip
    refine FitAt.rdM hm fun ck es k cs hb hkk ho hc hr hput => ?_
    rw [hc, List.drop_succ_cons, List.drop_zero]
    cases hf : find2 q i es with
    | none => exact FitAt.fail
    | some r =>
      have g := find2_ok hi 0 hr hf
      cases r with
      | none =>
        simp only at g
        rw [g]
        simp only [clockA]
        exact FitAt.wrM hm hb hkk ho (hput (ck + 1) _ _ (hr.app (.cons i v ck [] b c [] hi hv .nil))) fun m' h' hm' => FitAt.done hm' (.tup _ _ .nil)
      | some p =>
        obtain ⟨v', s⟩ := p
        obtain ⟨j, b', g1, g2, g3, g4, g5, g6⟩ := g
        rw [g1]
        simp only [Nat.zero_add, List.getD_cons_succ, g4 hk, List.set_cons_succ]
        exact FitAt.wrM hm hb hkk ho (hput ck _ _ (g5 v c hv)) fun m' h' hm' => FitAt.done hm' (.tup _ _ .nil)
theorem f_mdel {q : EqK} {x i : V} {a b : AV} (hm : MR ρ m nx h) (hx : VR ρ x a) (hi : VR ρ i b) :
    FitAt ρ m nx h (mdel2 q x i) (match (generalizing := false) keyA q b with
    | false => A.fail
    | true => match (generalizing := false) a with
      | .nilm => A.ret (.tup [])
      | .map d => A.bind (rdBlk d) fun k => match findA q b (k.cells.drop 1) 0 with
        | some (some (j, _)) => A.bind (wrMap d (k.cells.take (j + 1) ++ k.cells.drop (j + 4))) fun _ => A.ret (.tup [])
        | some none => A.ret (.tup [])
        | none => A.fail
      | _ => A.fail) := by
  unfold mdel2
  cases hk : key2 q i with
  | false => exact FitAt.fail
  | true =>
    rw [key2_ok hi hk]
    simp only
    cases hx <;> first | exact FitAt.fail | skip
    · refine FitAt.rdM hm fun ck es k cs hb hkk ho hc hr hput => ?_
      rw [hc, List.drop_succ_cons, List.drop_zero]
      cases hf : find2 q i es with
      | none => exact FitAt.fail
      | some r =>
        have g := find2_ok hi 0 hr hf
        cases r with
        | none =>
          simp only at g
          rw [g]
          exact FitAt.done hm (.tup _ _ .nil)
        | some p =>
          obtain ⟨v', s⟩ := p
          obtain ⟨j, b', g1, g2, g3, g4, g5, g6⟩ := g
          rw [g1]
          simp only [Nat.zero_add, List.take_succ_cons, show 3 * j + 4 = 3 * j + 3 + 1 by omega, List.drop_succ_cons, List.cons_append]
          exact FitAt.wrM hm hb hkk ho (hput ck _ _ g6) fun m' h' hm' => FitAt.done hm' (.tup _ _ .nil)
    · exact FitAt.done hm (.tup _ _ .nil)
theorem tup2 {x y : V} {a b : AV} (hx : VR ρ x a) (hy : VR ρ y b) : VR ρ (.tup [x, y]) (.tup [a, b]) := .tup _ _ (.cons _ _ _ _ hx (.cons _ _ _ _ hy .nil))
theorem f_ment {q : EqK} {z : V} {z' : AV} {x i : V} {a b : AV} (hm : MR ρ m nx h) (hz : VR ρ z z') (hx : VR ρ x a) (hi : VR ρ i b) :
    FitAt ρ m nx h (ment2 q z x i) (match (generalizing := false) keyA q b with
    | false => A.fail
    | true => match (generalizing := false) a with
      | .map d => A.bind (rdBlk d) fun k => match findA q b (k.cells.drop 1) 0 with
        | some (some (j, v)) => match sameA (k.cells.getD (j + 1) .nilm) b with
          | true => match k.cells[j + 3]? with
            | some s => A.bind (wrMap d k.cells) fun _ => A.ret (.tup [v, s])
            | none => A.fail
          | false => A.fail
        | some none => match clockA k.cells with
          | some ck => A.bind (wrMap d (.int .i64 (ck + 1) :: (k.cells.drop 1 ++ [b, z', .int .i64 ck]))) fun _ => A.ret (.tup [z', .int .i64 ck])
          | none => A.fail
        | none => A.fail
      | _ => A.fail) := by
  unfold ment2
  cases hk : key2 q i with
  | false => exact FitAt.fail
  | true =>
    rw [key2_ok hi hk]
    simp only
    cases hx <;> first | exact FitAt.fail | skip
    refine FitAt.rdM hm fun ck es k cs hb hkk ho hc hr hput => ?_
    rw [hc, List.drop_succ_cons, List.drop_zero]
    cases hf : find2 q i es with
    | none => exact FitAt.fail
    | some r =>
      have g := find2_ok hi 0 hr hf
      cases r with
      | none =>
        simp only at g
        rw [g]
        simp only [clockA]
        exact FitAt.wrM hm hb hkk ho (hput (ck + 1) _ _ (hr.app (.cons i z ck [] b z' [] hi hz .nil))) fun m' h' hm' => FitAt.done hm' (tup2 hz (.int _ _))
      | some p =>
        obtain ⟨v', s⟩ := p
        obtain ⟨j, b', g1, g2, g3, g4, g5, g6⟩ := g
        rw [g1]
        have g3' : (AV.int .i64 ck :: cs)[3 * j + 3]? = some (.int .i64 s) := by
          rw [show 3 * j + 3 = 3 * j + 2 + 1 by omega, List.getElem?_cons_succ]; exact g3
        simp only [Nat.zero_add, List.getD_cons_succ, g4 hk, g3']
        exact FitAt.wrM hm hb hkk ho (hput ck es cs hr) fun m' h' hm' => FitAt.done hm' (tup2 g2 (.int _ _))
theorem setS_ok {n : Int} {w : V} {c : AV} (hw : VR ρ w c) : ∀ {es es' : List (V × V × Int)} {cs : List AV} (i0 : Nat), MRs ρ es cs → setS n w es = some es' → ∃ j, findS n cs i0 = some (i0 + 3 * j) ∧ MRs ρ es' (cs.set (3 * j + 1) c)
  | _, es', _, i0, .nil, e => by cases e
  | _, es', _, i0, .cons k v s es a b cs hk hv t, e => by
    simp only [setS] at e
    rw [eqF_dec] at e
    by_cases hs : s = n
    · rw [decide_eq_true hs] at e
      cases e
      refine ⟨0, by simp only [findS, hs, decide_true]; rfl, ?_⟩
      exact .cons k w s es a c cs hk hw t
    · rw [decide_eq_false hs] at e
      simp only at e
      cases h1 : setS n w es with
      | none => rw [h1] at e; cases e
      | some es1 =>
        rw [h1] at e; cases e
        obtain ⟨j, g1, g2⟩ := setS_ok hw (i0 + 3) t h1
        refine ⟨j + 1, ?_, ?_⟩
        · simp only [findS, hs, decide_false]
          rw [g1]; congr 1; omega
        · rw [show 3 * (j + 1) + 1 = 3 * j + 1 + 1 + 1 + 1 by omega]
          simp only [List.set_cons_succ]
          exact .cons k v s _ a b _ hk hv g2
theorem f_mest {x i v : V} {a b c : AV} (hm : MR ρ m nx h) (hx : VR ρ x a) (hi : VR ρ i b) (hv : VR ρ v c) :
    FitAt ρ m nx h (mest2 x i v) (match (generalizing := false) a, b with
    | .map d, .int _ n => A.bind (rdBlk d) fun k => match findS n (k.cells.drop 1) 0 with
      | some j => A.bind (wrMap d (k.cells.set (j + 2) c)) fun _ => A.ret (.tup [])
      | none => A.fail
    | _, _ => A.fail) := by
  cases hx <;> first | exact FitAt.fail | skip
  cases hi <;> first | exact FitAt.fail | skip
  rename_i p k n
  refine FitAt.rdM hm fun ck es k cs hb hkk ho hc hr hput => ?_
  rw [hc, List.drop_succ_cons, List.drop_zero]
  cases hf : setS n v es with
  | none => exact FitAt.fail
  | some es' =>
    obtain ⟨j, g1, g2⟩ := setS_ok hv 0 hr hf
    rw [g1]
    simp only [Nat.zero_add, List.set_cons_succ]
    exact FitAt.wrM hm hb hkk ho (hput ck _ _ g2) fun m' h' hm' => FitAt.done hm' (.tup _ _ .nil)
/-! ### Calls -/
theorem paOf_nat : ∀ (f n : Nat), n < 2 ^ f → (paOf f n).nat = n
  | 0, n, hn => by simp at hn; subst hn; rfl
  | f + 1, n, hn => by
    unfold paOf
    rw [nat_beq_dec, nat_beq_dec]
    by_cases h0 : n = 0
    · rw [decide_eq_true h0, h0]; rfl
    · rw [decide_eq_false h0]
      simp only
      rw [Nat.pow_succ] at hn
      by_cases h1 : Nat.mod n 2 = 1
      · rw [decide_eq_true h1]
        have h1' : n % 2 = 1 := h1
        show Nat.succ (2 * (paOf f (n / 2)).nat) = n
        rw [paOf_nat f (n / 2) (by omega)]; omega
      · rw [decide_eq_false h1]
        have h1' : ¬ n % 2 = 1 := h1
        show Nat.succ (Nat.succ (2 * (paOf f (n / 2 - 1)).nat)) = n
        rw [paOf_nat f (n / 2 - 1) (by omega)]; omega
theorem rowF_eq : ∀ (rows : List (TypeId × Option Nat × FuncId)) (t : TypeId), rowF rows t = rowA rows t
  | [], t => rfl
  | (u, r) :: l, t => by
    simp only [rowF, rowA, rowF_eq l t]
    cases Nat.beq u t <;> rfl
end
end Go.Proofs.YtamfoplfbidolaaGreatDoorX
/- The second executor: the translation of the engine's code, its operands and operations. -/
namespace Go.Proofs.YtamfoplfbidolaaGreatDoorX
open Go Go.Proofs.YtamfoplfbidolaaGreatDoorE Go.Proofs.YtamfoplfbidolaaGreatDoorB
set_option linter.unusedVariables false
set_option linter.unusedSimpArgs false

/-! ### From some fuel on -/
def Ev {α : Type} (x : Nat → Option (Rs α)) (s : Rs α) : Prop := ∃ N0, ∀ N, N0 ≤ N → x N = some s
theorem Ev.const {α : Type} {o : Option (Rs α)} {s : Rs α} (e : o = some s) : Ev (fun _ => o) s := ⟨0, fun _ _ => e⟩
theorem Ev.succ {α : Type} {x : Nat → Option (Rs α)} {s : Rs α} (e : Ev (fun N => x (N + 1)) s) : Ev x s := by
  obtain ⟨N0, h⟩ := e
  refine ⟨N0 + 1, fun N hN => ?_⟩
  obtain ⟨K, rfl⟩ : ∃ K, N = K + 1 := ⟨N - 1, by omega⟩
  exact h K (by omega)
theorem Ev.shift {α : Type} {x : Nat → Option (Rs α)} {s : Rs α} (e : Ev x s) : Ev (fun N => x (N + 1)) s := by
  obtain ⟨N0, h⟩ := e
  exact ⟨N0, fun N hN => h (N + 1) (by omega)⟩
/-- One behind the other. -/
theorem Ev.bind {α β : Type} {x : Nat → A α} {f : Nat → α → A β} {h : Mem} {n lg : Nat} {r : Rs α} {s : Rs β} (e1 : Ev (fun N => x N h n lg) r) (e2 : Ev (fun N => f N r.v r.h r.nx lg) s) : Ev (fun N => A.bind (x N) (f N) h n lg) ⟨s.v, s.h, s.nx, r.tc ||| s.tc, r.wr ||| s.wr⟩ := by
  obtain ⟨N1, h1⟩ := e1
  obtain ⟨N2, h2⟩ := e2
  refine ⟨N1 + N2, fun N hN => ?_⟩
  have e1 := h1 N (by omega)
  have e2 := h2 N (by omega)
  simp only at e1 e2 ⊢
  unfold A.bind
  rw [e1]
  simp only
  rw [e2]

section
variable {ρ : Nat → Int}
/-- A step does what the engine's does, from some fuel on. -/
def FitE (ρ : Nat → Int) (m : Tm) (nx : Pa) (h : Mem) (k : K2) (x : Nat → A AV) : Prop := ∀ lg tc wr κ, k m nx lg tc wr κ = true → ∃ v m' nx' tc' wr', κ v m' nx' tc' wr' = true ∧ ∃ s, Ev (fun N => x N h nx.nat lg) s ∧ VR ρ v s.v ∧ MR ρ m' nx' s.h ∧ s.nx = nx'.nat ∧ tc' = tc ||| s.tc ∧ wr' = wr ||| s.wr
theorem FitAt.ev {m : Tm} {nx : Pa} {h : Mem} {k : K2} {x : A AV} (g : FitAt ρ m nx h k x) : FitE ρ m nx h k fun _ => x := fun lg tc wr κ e => by
  obtain ⟨v, m', nx', tc', wr', hκ, s, h1, h2, h3, h4, h5, h6⟩ := g lg tc wr κ e
  exact ⟨v, m', nx', tc', wr', hκ, s, .const h1, h2, h3, h4, h5, h6⟩
theorem FitE.fail {m : Tm} {nx : Pa} {h : Mem} {x : Nat → A AV} : FitE ρ m nx h fail2 x := fun lg tc wr κ e => by cases e
theorem FitE.rd {m : Tm} {nx : Pa} {h : Mem} {b : Pa} {f : B2 → K2} {g : Nat → Blk → A AV} (hm : MR ρ m nx h) (H : ∀ q k, BR ρ q k → FitE ρ m nx h (f q) (fun N => g N k)) : FitE ρ m nx h (withB b f) (fun N => A.bind (rdBlk b.nat) (g N)) := fun lg tc wr κ e => by
  rw [withB_eq] at e
  cases hq : Tp.get b m with
  | none => rw [hq] at e; cases e
  | some q =>
    obtain ⟨hb, k, hk, hr⟩ := hm.at_ b q hq
    rw [hq] at e
    obtain ⟨v, m', nx', tc', wr', hκ, s, h1, h2, h3, h4, h5, h6⟩ := H q k hr lg (tch lg b tc) wr κ e
    have e0 : rdBlk b.nat h nx.nat lg = some ⟨k, h, nx.nat, bit lg b.nat, 0⟩ := by simp only [rdBlk, blt_of_lt hb, hk]
    refine ⟨v, m', nx', tc', wr', hκ, _, Ev.bind (.const e0) h1, h2, h3, h4, ?_, ?_⟩
    · rw [h5, tch_eq, Nat.or_assoc]
    · rw [h6]; simp
/-- A table of functions does what the engine's does. -/
def CallFit (ρ : Nat → Int) (c : Call2) (call : Nat → FuncId → List AV → A AV) : Prop := ∀ (f : Pa) (vs : List V) (as : List AV), VRs ρ vs as → ∀ m nx h, MR ρ m nx h → FitE ρ m nx h (c f vs) (fun N => call N f.nat as)
theorem callF_ok {c : Call2} {call : Nat → FuncId → List AV → A AV} (hc : CallFit ρ c call) {m : Tm} {nx : Pa} {h : Mem} {f : Nat} {vs : List V} {as : List AV} (hm : MR ρ m nx h) (hv : VRs ρ vs as) : FitE ρ m nx h (callF c f vs) (fun N => call N f as) := by
  unfold callF
  cases hb : Nat.ble f 1048575 with
  | false => exact FitE.fail
  | true =>
    have := Nat.le_of_ble_eq_true hb
    have e := paOf_nat 20 f (by omega)
    have g := hc (paOf 20 f) vs as hv m nx h hm
    rw [e] at g
    exact g
theorem f_callv {c : Call2} {call : Nat → FuncId → List AV → A AV} (hc : CallFit ρ c call) {m : Tm} {nx : Pa} {h : Mem} {x : V} {a : AV} {vs : List V} {as : List AV} (hm : MR ρ m nx h) (hx : VR ρ x a) (hv : VRs ρ vs as) :
    FitE ρ m nx h (callv2 c x vs) (fun N => match (generalizing := false) a with | .fn f fs cs => (match Nat.beq f 4294967295 with | true => A.fail | false => call N f (fs ++ as ++ cs)) | _ => A.fail) := by
  cases hx <;> first | exact FitE.fail | skip
  rename_i f fs cs as' bs h1 h2
  cases hmk : Nat.beq f 4294967295 with
  | true =>
    have := Nat.eq_of_beq_eq_true hmk
    subst this
    exact FitE.fail
  | false =>
    simp only [hmk]
    exact callF_ok hc hm (VRs.app (VRs.app h1 hv) h2)
theorem f_nilq {rows : List (TypeId × Option Nat × FuncId)} {m : Tm} {nx : Pa} {h : Mem} {x : V} {a : AV} (hm : MR ρ m nx h) (hx : VR ρ x a) : FitAt ρ m nx h (opt2 (nilq2' rows x)) (match (generalizing := false) a with
    | .fn f fs cs => match Nat.beq f 4294967295 with
      | false => A.ret (.fn f fs cs)
      | true => match fs with
        | [.ifc t v] => match rowA rows t, v with
          | some (none, _), _ => A.ret (.fn f fs cs)
          | some (some _, _), .ptr _ _ => A.ret (.fn f fs cs)
          | _, _ => A.fail
        | _ => A.fail
    | _ => A.fail) := by
  cases hx <;> first | exact FitAt.fail | skip
  rename_i f fs cs as bs h1 h2
  simp only [nilq2']
  cases Nat.beq f 4294967295 with
  | false => exact FitAt.done hm (.fn _ _ _ _ _ h1 h2)
  | true =>
    cases h1 with
    | nil => exact FitAt.fail
    | cons g b gs bs' hg hgs =>
      cases hgs with
      | cons _ _ _ _ _ _ => exact FitAt.fail
      | nil =>
        cases hg <;> first | exact FitAt.fail | skip
        rename_i t v v' hv
        have h1 : VRs ρ [.ifc t v] [.ifc t v'] := .cons _ _ _ _ (.ifc _ _ _ hv) .nil
        simp only [rowOk, rowF_eq]
        cases hrow : rowA rows t with
        | none => exact FitAt.fail
        | some q =>
          obtain ⟨d, k⟩ := q
          cases d with
          | none => exact FitAt.done hm (.fn _ _ _ _ _ h1 h2)
          | some d =>
            cases hv <;> first | exact FitAt.fail | exact FitAt.done hm (.fn _ _ _ _ _ h1 h2)
theorem f_inv {c : Call2} {call : Nat → FuncId → List AV → A AV} (hc : CallFit ρ c call) {rows : List (TypeId × Option Nat × FuncId)} {m : Tm} {nx : Pa} {h : Mem} {x : V} {a : AV} {vs : List V} {as : List AV} (hm : MR ρ m nx h) (hx : VR ρ x a) (hv : VRs ρ vs as) :
    FitE ρ m nx h (inv2 c rows x vs) (fun N => match (generalizing := false) a with
    | .ifc t v => match rowA rows t with
      | some (none, f) => call N f (v :: as)
      | some (some d, f) => match (generalizing := false) v with
        | .ptr b o => A.bind (rdBlk b) fun k => match k.cells[o + d]? with
          | some u => call N f (u :: as)
          | none => A.fail
        | _ => A.fail
      | none => A.fail
    | _ => A.fail) := by
  cases hx <;> first | exact FitE.fail | skip
  rename_i t v a hva
  unfold inv2
  simp only
  rw [rowF_eq]
  cases hr : rowA rows t with
  | none => exact FitE.fail
  | some p =>
    obtain ⟨d, f⟩ := p
    cases d with
    | none => exact callF_ok hc hm (.cons _ _ _ _ hva hv)
    | some d =>
      simp only
      cases hva <;> first | exact FitE.fail | skip
      rename_i p o
      refine FitE.rd hm fun q k hr => ?_
      cases q with
      | fr r => exact FitE.fail
      | mp ck es => exact FitE.fail
      | mk ty sz own grow l cs =>
        obtain ⟨gc, _⟩ := hr.cel
        simp only
        cases hg : cs.get (Nat.add o d) with
        | none => exact FitE.fail
        | some u =>
          obtain ⟨a', h1, h2⟩ := gc.get hg
          have h1' : k.cells[o + d]? = some a' := h1
          simp only [h1']
          exact callF_ok hc hm (.cons _ _ _ _ h2 hv)
end

/-! ### Constants -/
mutual
def vOf : AV → V
  | .bool b => .b b
  | .int k n => .int k n
  | .str s => .str s
  | .null => .null
  | .nils => .nils
  | .nili => .nili
  | .nilf => .nilf
  | .nilm => .nilm
  | .fn f fs cs => .fn f (vOfs fs) (vOfs cs)
  | .agg cs => match cs.all AV.one && Nat.ble cs.length 1048576 with
    | true => .agg cs.length (Rp.ofList 40 cs.length (vOfs cs))
    | false => .bad
  | .tup cs => .tup (vOfs cs)
  | _ => .bad
def vOfs : List AV → List V
  | [] => []
  | a :: as => vOf a :: vOfs as
end
theorem vOfs_len : ∀ as : List AV, (vOfs as).length = as.length
  | [] => rfl
  | a :: as => by simp only [vOfs, List.length_cons, vOfs_len as]
theorem ofList40 {n : Nat} {vs : List V} (hl : vs.length = n) (hn : n ≤ 1048576) : (Rp.ofList 40 n vs).Ok ∧ (Rp.ofList 40 n vs).list = vs := Rp.ofList_ok 39 n vs hl.symm (Nat.le_trans hn (by decide))
mutual
theorem vOf_ok (ρ : Nat → Int) : ∀ a : AV, VR ρ (vOf a) a
  | .bool b => .b b
  | .int k n => .int k n
  | .str s => .str s
  | .null => .null
  | .nils => .nils
  | .nili => .nili
  | .nilf => .nilf
  | .nilm => .nilm
  | .fn f fs cs => .fn f _ _ _ _ (vOfs_ok ρ fs) (vOfs_ok ρ cs)
  | .agg cs => by
    unfold vOf
    cases h : (cs.all AV.one && Nat.ble cs.length 1048576) with
    | false => exact .bad _
    | true =>
      simp only [Bool.and_eq_true] at h
      obtain ⟨h1, h2⟩ := ofList40 (vOfs_len cs) (Nat.le_of_ble_eq_true h.2)
      exact .agg _ _ cs h1 rfl (by rw [h2]; exact vOfs_ok ρ cs) h.1
  | .tup cs => .tup _ _ (vOfs_ok ρ cs)
  | .ptr _ _ => .bad _
  | .slc _ _ _ _ => .bad _
  | .ifc _ _ => .bad _
  | .map _ => .bad _
theorem vOfs_ok (ρ : Nat → Int) : ∀ as : List AV, VRs ρ (vOfs as) as
  | [] => .nil
  | a :: as => .cons _ _ _ _ (vOf_ok ρ a) (vOfs_ok ρ as)
end
def zOk (z : List AV) : Bool := z.all AV.one && Nat.ble z.length 1048576
def zr (z : List AV) : Rp V := Rp.ofList 40 z.length (vOfs z)
theorem zr_ok (ρ : Nat → Int) {z : List AV} (h : zOk z = true) : Cel ρ z.length (zr z) z := by
  unfold zOk at h
  simp only [Bool.and_eq_true] at h
  obtain ⟨h1, h2⟩ := ofList40 (vOfs_len z) (Nat.le_of_ble_eq_true h.2)
  exact ⟨h1, rfl, by unfold zr; rw [h2]; exact vOfs_ok ρ z, h.1⟩

/-! ### Operations -/
inductive OpT where
  | mv (x : Opd)
  | v (f : Fv)
  | m (f : Fm)
  | c (f : Fc)
noncomputable def OpT.fc : OpT → Fc
  | .mv x => oV x
  | .v f => oV f
  | .m f => oM f
  | .c f => f
noncomputable def xs2 (x : X → Opd) : List X → List Opd
  | [] => []
  | a :: as => x a :: xs2 x as
noncomputable def xo2 (x : X → Opd) : Option X → Option Opd
  | none => none
  | some a => some (x a)
noncomputable def ps2 (x : X → Opd) : List (Nat × Nat × X) → List (Nat × Nat × Opd)
  | [] => []
  | (o, n, a) :: as => (o, n, x a) :: ps2 x as
noncomputable def zif (z : List AV) (o : OpT) : OpT := match zOk z with
  | true => o
  | false => .m mBad
noncomputable def trCall (f : FuncId) (as : List Opd) : OpT := match Nat.ble f 1048575 with
  | true => .c (cCall (paOf 20 f) as)
  | false => .m mBad
noncomputable def trO (x : X → Opd) : AOp → OpT
  | .mov a => .mv (x a)
  | .lenc n => .mv (evC (.int .i64 n))
  | .pick c a b => .v (fPick (x c) (x a) (x b))
  | .alloc ty sz z => zif z (.m (mAlloc ty sz z.length (zr z)))
  | .box ty sz a => .m (mBox ty sz (x a))
  | .build z ps => zif z (.v (fBuild z.length (zr z) (ps2 x ps)))
  | .bslice ty sz len z ps => zif z (match Nat.ble len 4294967295 with
    | true => .m (mBslice ty sz len (Nat.mul len z.length) (Rp.rep z.length (zr z) 64 len) (ps2 x ps))
    | false => .m mBad)
  | .load none a => .m (mLoad1 (x a))
  | .load (some n) a => .m (mLoadn n (x a))
  | .store n a b => .m (mStore n (x a) (x b))
  | .nilc a => .v (fNilc (x a))
  | .bin op a b => .v (fBin op (x a) (x b))
  | .eq neg k a b => .v (fEq neg k (x a) (x b))
  | .not a => .v (fNot (x a))
  | .un .neg a => .v (fNeg (x a))
  | .conv k a => .v (fConv k (x a))
  | .faddr d a => .v (fFaddr d (x a))
  | .fld o none a => .v (fFld1 o (x a))
  | .fld o (some n) a => .v (fFldn o n (x a))
  | .iarr len sz a i => .v (fIarr len sz (x a) (x i))
  | .islc sz a i => .v (fIslc sz (x a) (x i))
  | .ixa len sz none a i => .v (fIxa1 len sz (x a) (x i))
  | .ixa len sz (some n) a i => .v (fIxan len sz n (x a) (x i))
  | .ixs a i => .v (fIxs (x a) (x i))
  | .ext a i => .v (fExt (x a) i)
  | .len true a => .v (fLens (x a))
  | .len false a => .v (fLenl (x a))
  | .mn as => .v (fMn (xs2 x as))
  | .mx as => .v (fMx (xs2 x as))
  | .app ty sz bytes s a => .m (mApp ty sz bytes (x s) (x a))
  | .appz ty sz bytes z s a => zif z (.m (mAppz ty sz bytes z.length (zr z) (x s) (x a)))
  | .slstr a lo hi => .m (mSlstr (x a) (xo2 x lo) (xo2 x hi))
  | .slice sz a lo hi mx => .m (mSlice sz (x a) (xo2 x lo) (xo2 x hi) (xo2 x mx))
  | .slarr len sz a lo hi mx => .m (mSlarr len sz (x a) (xo2 x lo) (xo2 x hi) (xo2 x mx))
  | .mksl ty sz bytes z l c => zif z (.m (mMksl ty sz bytes z.length (zr z) (x l) (x c)))
  | .copy sz d s => .m (mCopy sz (x d) (x s))
  | .call f as => trCall f (xs2 x as)
  | .mki t a => .v (fMki t (x a))
  | .mkf f fs as => .v (fMkf f (xs2 x fs) (xs2 x as))
  | .callv a as => .c (cCallv (x a) (xs2 x as))
  | .inv rows a as => .c (cInv rows (x a) (xs2 x as))
  | .capn a => .m (mCapn (x a))
  | .nilq rows a => .v (fNilq rows (x a))
  | .cnt a b => .v (fCnt (x a) (x b))
  | .mkm => .m mMkm
  | .mlen a => .m (mMlen (x a))
  | .mget q z ok a i => .m (mMget q (vOf z) ok (x a) (x i))
  | .mput q a i v => .m (mMput q (x a) (x i) (x v))
  | .mdel q a i => .m (mMdel q (x a) (x i))
  | .ment q z a i => .m (mMent q (vOf z) (x a) (x i))
  | .mest a s v => .m (mMest (x a) (x s) (x v))
  | _ => .m mBad

section
variable {ρ : Nat → Int} {E : List V} {S : Tp V} {ts : List AV} {x : X → Opd}
/-- What an operand hands on. -/
def OX (ρ : Nat → Int) (E : List V) (S : Tp V) (x : Opd) (a : AV) : Prop := ∃ v, (∀ κ, x E S κ = κ v) ∧ VR ρ v a
theorem evL_ok (hx : ∀ a, OX ρ E S (x a) (a.ev ts)) : ∀ as : List X, ∃ vs, (∀ κ, evL E S (xs2 x as) κ = κ vs) ∧ VRs ρ vs (as.map (·.ev ts))
  | [] => ⟨[], fun _ => rfl, .nil⟩
  | a :: as => by
    obtain ⟨v, h1, h2⟩ := hx a
    obtain ⟨vs, h3, h4⟩ := evL_ok hx as
    refine ⟨v :: vs, fun κ => ?_, .cons _ _ _ _ h2 h4⟩
    show x a E S (fun v => evL E S (xs2 x as) fun vs => κ (v :: vs)) = _
    rw [h1, h3]
theorem evO_ok (hx : ∀ a, OX ρ E S (x a) (a.ev ts)) : ∀ o : Option X, ∃ w, (∀ κ, evO E S (xo2 x o) κ = κ w) ∧ OR ρ w (o.map (·.ev ts))
  | none => ⟨none, fun _ => rfl, .none⟩
  | some a => by
    obtain ⟨v, h1, h2⟩ := hx a
    exact ⟨some v, fun κ => h1 _, .some _ _ h2⟩
theorem evP_ok (hx : ∀ a, OX ρ E S (x a) (a.ev ts)) : ∀ ps : List (Nat × Nat × X), ∃ qs, (∀ κ, evP E S (ps2 x ps) κ = κ qs) ∧ PR ρ qs (ps.map fun (o, n, a) => (o, n, a.ev ts))
  | [] => ⟨[], fun _ => rfl, .nil⟩
  | (o, n, a) :: ps => by
    obtain ⟨v, h1, h2⟩ := hx a
    obtain ⟨qs, h3, h4⟩ := evP_ok hx ps
    refine ⟨(o, n, v) :: qs, fun κ => ?_, .cons _ _ _ _ _ _ h2 h4⟩
    show x a E S (fun v => evP E S (ps2 x ps) fun vs => κ ((o, n, v) :: vs)) = _
    rw [h1, h3]
theorem optV_opt (o : Option V) (m : Tm) (nx : Pa) (lg tc wr : Nat) (κ : Kc) : optV o (fun v => κ v m nx tc wr) = opt2 o m nx lg tc wr κ := by cases o <;> rfl
section
variable {m : Tm} {nx : Pa} {h : Mem} {c : Call2} {y : Nat → A AV} {a b d : X}
theorem FitE.of {k k' : K2} (e : k = k') (g : FitE ρ m nx h k' y) : FitE ρ m nx h k y := e ▸ g
theorem x1 (hx : ∀ a, OX ρ E S (x a) (a.ev ts)) (g : V → K2) {f : Opd → Fc} (hf : ∀ (o : Opd) m nx lg tc wr κ, f o c E S m nx lg tc wr κ = o E S fun v => g v m nx lg tc wr κ) (H : ∀ v, VR ρ v (a.ev ts) → FitE ρ m nx h (g v) y) : FitE ρ m nx h (f (x a) c E S) y := by
  obtain ⟨v, h1, h2⟩ := hx a
  refine FitE.of ?_ (H v h2)
  funext m nx lg tc wr κ
  rw [hf, h1]
theorem x2 (hx : ∀ a, OX ρ E S (x a) (a.ev ts)) (g : V → V → K2) {f : Opd → Opd → Fc} (hf : ∀ (o p : Opd) m nx lg tc wr κ, f o p c E S m nx lg tc wr κ = o E S fun v => p E S fun w => g v w m nx lg tc wr κ) (H : ∀ v w, VR ρ v (a.ev ts) → VR ρ w (b.ev ts) → FitE ρ m nx h (g v w) y) : FitE ρ m nx h (f (x a) (x b) c E S) y := by
  obtain ⟨v, h1, h2⟩ := hx a
  obtain ⟨w, h3, h4⟩ := hx b
  refine FitE.of ?_ (H v w h2 h4)
  funext m nx lg tc wr κ
  rw [hf, h1, h3]
theorem x3 (hx : ∀ a, OX ρ E S (x a) (a.ev ts)) (g : V → V → V → K2) {f : Opd → Opd → Opd → Fc} (hf : ∀ (o p q : Opd) m nx lg tc wr κ, f o p q c E S m nx lg tc wr κ = o E S fun v => p E S fun w => q E S fun u => g v w u m nx lg tc wr κ) (H : ∀ v w u, VR ρ v (a.ev ts) → VR ρ w (b.ev ts) → VR ρ u (d.ev ts) → FitE ρ m nx h (g v w u) y) : FitE ρ m nx h (f (x a) (x b) (x d) c E S) y := by
  obtain ⟨v, h1, h2⟩ := hx a
  obtain ⟨w, h3, h4⟩ := hx b
  obtain ⟨u, h5, h6⟩ := hx d
  refine FitE.of ?_ (H v w u h2 h4 h6)
  funext m nx lg tc wr κ
  rw [hf, h1, h3, h5]
theorem v1 (hx : ∀ a, OX ρ E S (x a) (a.ev ts)) (g : V → Option V) (H : ∀ v, VR ρ v (a.ev ts) → FitE ρ m nx h (opt2 (g v)) y) : FitE ρ m nx h (oV (f1 g (x a)) c E S) y :=
  x1 hx (fun v => opt2 (g v)) (f := fun o => oV (f1 g o)) (fun o m nx lg tc wr κ => by
    show o E S (fun a => optV (g a) fun v => κ v m nx tc wr) = _
    congr 1; funext v; exact optV_opt _ _ _ lg _ _ _) H
theorem v2 (hx : ∀ a, OX ρ E S (x a) (a.ev ts)) (g : V → V → Option V) (H : ∀ v w, VR ρ v (a.ev ts) → VR ρ w (b.ev ts) → FitE ρ m nx h (opt2 (g v w)) y) : FitE ρ m nx h (oV (f2 g (x a) (x b)) c E S) y :=
  x2 hx (fun v w => opt2 (g v w)) (f := fun o p => oV (f2 g o p)) (fun o p m nx lg tc wr κ => by
    show o E S (fun a => p E S fun b => optV (g a b) fun v => κ v m nx tc wr) = _
    congr 1; funext v; congr 1; funext w; exact optV_opt _ _ _ lg _ _ _) H
theorem vL (hx : ∀ a, OX ρ E S (x a) (a.ev ts)) (g : List V → Option V) {as : List X} (H : ∀ vs, VRs ρ vs (as.map (·.ev ts)) → FitE ρ m nx h (opt2 (g vs)) y) : FitE ρ m nx h (oV (fun E S κ => evL E S (xs2 x as) fun vs => optV (g vs) κ) c E S) y := by
  obtain ⟨vs, h1, h2⟩ := evL_ok hx as
  refine FitE.of ?_ (H vs h2)
  funext m nx lg tc wr κ
  show evL E S (xs2 x as) (fun vs => optV (g vs) fun v => κ v m nx tc wr) = _
  rw [h1]; exact optV_opt _ _ _ lg _ _ _
end
theorem zif_ok {z : List AV} {o : OpT} {m : Tm} {nx : Pa} {h : Mem} {c : Call2} {y : Nat → A AV} (H : zOk z = true → FitE ρ m nx h (o.fc c E S) y) : FitE ρ m nx h ((zif z o).fc c E S) y := by
  unfold zif
  cases hz : zOk z with
  | false => exact FitE.fail
  | true => exact H hz
/-- Each operation does what the engine's does. -/
theorem trO_fit {c : Call2} {call : Nat → FuncId → List AV → A AV} (hc : CallFit ρ c call) (hx : ∀ a, OX ρ E S (x a) (a.ev ts)) {m : Tm} {nx : Pa} {h : Mem} (hm : MR ρ m nx h) (o : AOp) : FitE ρ m nx h ((trO x o).fc c E S) (fun N => opRun (call N) ts o) := by
  cases o with
  | mov a => exact x1 (c := c) hx (fun v => done v) (f := fun o => oV o) (fun _ _ _ _ _ _ _ => rfl) fun v hv => (FitAt.done hm hv).ev
  | lenc n => exact (FitAt.done hm (.int _ _)).ev
  | pick q a b => exact x3 (c := c) hx (fun c a b => opt2 (pick2' c a b)) (f := fun o p q => oV (fPick o p q)) (fun o p q m nx lg tc wr κ => by
      show o E S (fun c => p E S fun a => q E S fun b => optV (pick2' c a b) fun v => κ v m nx tc wr) = _
      congr 1; funext v; congr 1; funext w; congr 1; funext u; exact optV_opt _ _ _ lg _ _ _) fun v w u h1 h2 h3 => (f_pick hm h1 h2 h3).ev
  | alloc ty sz z => exact zif_ok fun hz => (f_alloc hm (zr_ok ρ hz)).ev
  | box ty sz a => exact x1 (c := c) hx (fun v => box2 ty sz v) (f := fun o => oM (mBox ty sz o)) (fun _ _ _ _ _ _ _ => rfl) fun v hv => (f_box hm hv).ev
  | build z ps =>
    refine zif_ok fun hz => ?_
    obtain ⟨qs, h1, h2⟩ := evP_ok hx ps
    refine FitE.of ?_ (f_build hm (zr_ok ρ hz) h2).ev
    funext m nx lg tc wr κ
    show evP E S (ps2 x ps) (fun ps => Option.rec (motive := fun _ => Bool) false (fun r => κ (.agg z.length r) m nx tc wr) (fill2 z.length (zr z) ps)) = _
    rw [h1]
    cases fill2 z.length (zr z) qs <;> rfl
  | bslice ty sz len z ps =>
    refine zif_ok fun hz => ?_
    cases hb : Nat.ble len 4294967295 with
    | false => exact FitE.fail
    | true =>
      obtain ⟨qs, h1, h2⟩ := evP_ok hx ps
      refine FitE.of ?_ (f_bslice hm ((zr_ok ρ hz).rep (Nat.le_of_ble_eq_true hb)) h2).ev
      funext m nx lg tc wr κ
      exact h1 _
  | load n a => cases n with
    | none => exact x1 (c := c) hx load12 (f := fun o => oM (mLoad1 o)) (fun _ _ _ _ _ _ _ => rfl) fun v hv => (f_load1 hm hv).ev
    | some n => exact x1 (c := c) hx (loadn2 n) (f := fun o => oM (mLoadn n o)) (fun _ _ _ _ _ _ _ => rfl) fun v hv => (f_loadn hm hv).ev
  | store n a b => exact x2 (c := c) hx (store2 n) (f := fun o p => oM (mStore n o p)) (fun _ _ _ _ _ _ _ _ => rfl) fun v w hv hw => (f_store hm hv hw).ev
  | nilc a => exact v1 (c := c) hx nil2' fun v hv => (f_nil hm hv).ev
  | bin op a b => exact v2 (c := c) hx (vbin op) fun v w hv hw => (f_bin hm hv hw).ev
  | eq neg k a b => exact v2 (c := c) hx (fun a b => eq2' neg (eq2 k a b)) fun v w hv hw => (f_eq hm hv hw).ev
  | not a => exact v1 (c := c) hx not2' fun v hv => (f_not hm hv).ev
  | un op a => cases op <;> first | exact FitE.fail | exact v1 (c := c) hx neg2' fun v hv => (f_neg hm hv).ev
  | conv k a => exact v1 (c := c) hx (conv2' k) fun v hv => (f_conv hm hv).ev
  | faddr d a => exact v1 (c := c) hx (fad2' d) fun v hv => (f_faddr hm hv).ev
  | fld o n a => cases n with
    | none => exact v1 (c := c) hx (fld12' o) fun v hv => (f_fld1 hm hv).ev
    | some n => exact v1 (c := c) hx (fldn2' o n) fun v hv => (f_fldn hm hv).ev
  | iarr len sz a i => exact v2 (c := c) hx (iarr2' len sz) fun v w hv hw => (f_iarr hm hv hw).ev
  | islc sz a i => exact v2 (c := c) hx (islc2' sz) fun v w hv hw => (f_islc hm hv hw).ev
  | ixa len sz n a i => cases n with
    | none => exact v2 (c := c) hx (ixa12' len sz) fun v w hv hw => (f_ixa1 hm hv hw).ev
    | some n => exact v2 (c := c) hx (ixan2' len sz n) fun v w hv hw => (f_ixan hm hv hw).ev
  | ixs a i => exact v2 (c := c) hx ixs2' fun v w hv hw => (f_ixs hm hv hw).ev
  | ext a i => exact v1 (c := c) hx (fun v => ext2' v i) fun v hv => (f_ext hm hv).ev
  | len b a => cases b with
    | true => exact v1 (c := c) hx lens2' fun v hv => (f_lens hm hv).ev
    | false => exact v1 (c := c) hx lenl2' fun v hv => (f_lenl hm hv).ev
  | mn as => exact vL (c := c) hx mn2v fun vs hv => (f_mn hm hv).ev
  | mx as => exact vL (c := c) hx mx2v fun vs hv => (f_mx hm hv).ev
  | app ty sz bytes s a => exact x2 (c := c) hx (app2 ty sz bytes) (f := fun o p => oM (mApp ty sz bytes o p)) (fun _ _ _ _ _ _ _ _ => rfl) fun v w hv hw => (f_app2 hm hv hw).ev
  | appz ty sz bytes z s a => exact zif_ok fun hz => x2 (c := c) hx (appz2 ty sz bytes z.length (zr z)) (f := fun o p => oM (mAppz ty sz bytes z.length (zr z) o p)) (fun _ _ _ _ _ _ _ _ => rfl) fun v w hv hw => (f_appz hm (zr_ok ρ hz) hv hw).ev
  | slstr a lo hi =>
    obtain ⟨w1, l1, l2⟩ := evO_ok hx lo
    obtain ⟨w2, h1, h2⟩ := evO_ok hx hi
    refine x1 (c := c) hx (fun v => slstr2 v w1 w2) (f := fun o => oM (mSlstr o (xo2 x lo) (xo2 x hi))) (fun o m nx lg tc wr κ => ?_) fun v hv => (f_slstr hm hv l2 h2).ev
    show evO E S (xo2 x lo) (fun lo => evO E S (xo2 x hi) fun hi => o E S fun x => slstr2 x lo hi m nx lg tc wr κ) = _
    rw [l1, h1]
  | slice sz a lo hi mx =>
    obtain ⟨w1, l1, l2⟩ := evO_ok hx lo
    obtain ⟨w2, h1, h2⟩ := evO_ok hx hi
    obtain ⟨w3, k1, k2⟩ := evO_ok hx mx
    refine x1 (c := c) hx (fun v => slice2 sz v w1 w2 w3) (f := fun o => oM (mSlice sz o (xo2 x lo) (xo2 x hi) (xo2 x mx))) (fun o m nx lg tc wr κ => ?_) fun v hv => ?_
    · show evO E S (xo2 x lo) (fun lo => evO E S (xo2 x hi) fun hi => evO E S (xo2 x mx) fun mx => o E S fun x => slice2 sz x lo hi mx m nx lg tc wr κ) = _
      rw [l1, h1, k1]
    · have g := (f_slice (sz := sz) hm hv l2 h2 k2).ev
      cases mx <;> exact g
  | slarr len sz a lo hi mx =>
    obtain ⟨w1, l1, l2⟩ := evO_ok hx lo
    obtain ⟨w2, h1, h2⟩ := evO_ok hx hi
    obtain ⟨w3, k1, k2⟩ := evO_ok hx mx
    refine x1 (c := c) hx (fun v => slarr2 len sz v w1 w2 w3) (f := fun o => oM (mSlarr len sz o (xo2 x lo) (xo2 x hi) (xo2 x mx))) (fun o m nx lg tc wr κ => ?_) fun v hv => (f_slarr hm hv l2 h2 k2).ev
    show evO E S (xo2 x lo) (fun lo => evO E S (xo2 x hi) fun hi => evO E S (xo2 x mx) fun mx => o E S fun x => slarr2 len sz x lo hi mx m nx lg tc wr κ) = _
    rw [l1, h1, k1]
  | mksl ty sz bytes z l q => exact zif_ok fun hz => x2 (c := c) hx (mksl2 ty sz bytes z.length (zr z)) (f := fun o p => oM (mMksl ty sz bytes z.length (zr z) o p)) (fun _ _ _ _ _ _ _ _ => rfl) fun v w hv hw => (f_mksl hm (zr_ok ρ hz) hv hw).ev
  | copy sz d s => exact x2 (c := c) hx (copy2 sz) (f := fun o p => oM (mCopy sz o p)) (fun _ _ _ _ _ _ _ _ => rfl) fun v w hv hw => (f_copy hm hv hw).ev
  | call f as =>
    show FitE ρ m nx h ((trCall f (xs2 x as)).fc c E S) _
    unfold trCall
    cases hb : Nat.ble f 1048575 with
    | false => exact FitE.fail
    | true =>
      have := Nat.le_of_ble_eq_true hb
      obtain ⟨vs, h1, h2⟩ := evL_ok hx as
      have g := hc (paOf 20 f) _ _ h2 m nx h hm
      rw [paOf_nat 20 f (by omega)] at g
      refine FitE.of ?_ g
      funext m nx lg tc wr κ
      exact h1 _
  | mki t a => exact x1 (c := c) hx (fun v => done (.ifc t v)) (f := fun o => oV (fMki t o)) (fun _ _ _ _ _ _ _ => rfl) fun v hv => (FitAt.done hm (.ifc t _ _ hv)).ev
  | mkf f fs as =>
    obtain ⟨vs, h1, h2⟩ := evL_ok hx fs
    obtain ⟨ws, h3, h4⟩ := evL_ok hx as
    refine FitE.of ?_ (FitAt.done hm (.fn f _ _ _ _ h2 h4)).ev
    funext m nx lg tc wr κ
    show evL E S (xs2 x fs) (fun vs => evL E S (xs2 x as) fun ws => κ (.fn f vs ws) m nx tc wr) = _
    rw [h1, h3]; rfl
  | callv a as =>
    obtain ⟨vs, h1, h2⟩ := evL_ok hx as
    refine x1 (c := c) hx (fun v => callv2 c v vs) (f := fun o => cCallv o (xs2 x as)) (fun o m nx lg tc wr κ => ?_) fun v hv => f_callv hc hm hv h2
    show o E S (fun v => evL E S (xs2 x as) fun vs => callv2 c v vs m nx lg tc wr κ) = _
    congr 1; funext v; exact h1 _
  | inv rows a as =>
    obtain ⟨vs, h1, h2⟩ := evL_ok hx as
    refine x1 (c := c) hx (fun v => inv2 c rows v vs) (f := fun o => cInv rows o (xs2 x as)) (fun o m nx lg tc wr κ => ?_) fun v hv => f_inv hc hm hv h2
    show o E S (fun v => evL E S (xs2 x as) fun vs => inv2 c rows v vs m nx lg tc wr κ) = _
    congr 1; funext v; exact h1 _
  | capn a => exact x1 (c := c) hx cap2 (f := fun o => oM (mCapn o)) (fun _ _ _ _ _ _ _ => rfl) fun v hv => (f_cap hm hv).ev
  | i2s a => exact FitE.fail
  | b2s a => exact FitE.fail
  | nilq rows a => exact v1 (c := c) hx (nilq2' rows) fun v hv => (f_nilq hm hv).ev
  | cnt a b => exact v2 (c := c) hx cnt2' fun v w hv hw => (f_cnt hm hv hw).ev
  | mkm => exact (f_mkm hm).ev
  | mlen a => exact x1 (c := c) hx mlen2 (f := fun o => oM (mMlen o)) (fun _ _ _ _ _ _ _ => rfl) fun v hv => (f_mlen hm hv).ev
  | mget q z ok a i => exact x2 (c := c) hx (mget2 q (vOf z) ok) (f := fun o p => oM (mMget q (vOf z) ok o p)) (fun _ _ _ _ _ _ _ _ => rfl) fun v w hv hw => (f_mget hm (vOf_ok ρ z) hv hw).ev
  | mput q a i v => exact x3 (c := c) hx (mput2 q) (f := fun o p r => oM (mMput q o p r)) (fun _ _ _ _ _ _ _ _ _ => rfl) fun v w u hv hw hu => (f_mput hm hv hw hu).ev
  | mdel q a i => exact x2 (c := c) hx (mdel2 q) (f := fun o p => oM (mMdel q o p)) (fun _ _ _ _ _ _ _ _ => rfl) fun v w hv hw => (f_mdel hm hv hw).ev
  | ment q z a i => exact x2 (c := c) hx (ment2 q (vOf z)) (f := fun o p => oM (mMent q (vOf z) o p)) (fun _ _ _ _ _ _ _ _ => rfl) fun v w hv hw => (f_ment hm (vOf_ok ρ z) hv hw).ev
  | mest a s v => exact x3 (c := c) hx mest2 (f := fun o p r => oM (mMest o p r)) (fun _ _ _ _ _ _ _ _ _ => rfl) fun v w u hv hw hu => (f_mest hm hv hw hu).ev
  | bad => exact FitE.fail
end
end Go.Proofs.YtamfoplfbidolaaGreatDoorX
/- The second executor: the translation of code; operations in the order of the text. -/
namespace Go.Proofs.YtamfoplfbidolaaGreatDoorX
open Go Go.Proofs.YtamfoplfbidolaaGreatDoorE Go.Proofs.YtamfoplfbidolaaGreatDoorB
set_option linter.unusedVariables false
set_option linter.unusedSimpArgs false

/-! ### What the translation knows -/
/-- What a temporary is: a constant; what another one is; the i-th value that was laid. -/
inductive Al where
  | c (v : V)
  | s (t : Nat)
  | e (i : Nat)
structure TS where
  al : List (Nat × Al)
  dep : Nat
def alGet : List (Nat × Al) → Nat → Option Al
  | [], _ => none
  | (u, a) :: l, t => match Nat.beq u t with
    | true => some a
    | false => alGet l t
def ixK : List Nat → Nat → Nat → Option Nat
  | [], _, _ => none
  | u :: l, t, i => match Nat.beq u t with
    | true => some i
    | false => ixK l t (Nat.succ i)
/-- The slot of a temporary that has one. -/
noncomputable def pth (ks : List Nat) (t : Nat) : Option Pa := match ixK ks t 0 with
  | some i => match Nat.ble i 4095 with
    | true => some (paOf 12 i)
    | false => none
  | none => none
def memN : List Nat → Nat → Bool
  | [], _ => false
  | u :: l, t => match Nat.beq u t with
    | true => true
    | false => memN l t
def alS (d : Nat) : Al → Bool
  | .s u => Nat.beq u d
  | _ => false
/-- What named a temporary that is assigned is forgotten. -/
def kill (d : Nat) : List (Nat × Al) → List (Nat × Al)
  | [] => []
  | (t, a) :: l => match Nat.beq t d || alS d a with
    | true => kill d l
    | false => (t, a) :: kill d l
def alIn (ds : List Nat) : Al → Bool
  | .c _ => false
  | .s u => memN ds u
  | .e _ => true
/-- What is left behind code that assigns these. -/
def clrL (ds : List Nat) : List (Nat × Al) → List (Nat × Al)
  | [] => []
  | (t, a) :: l => match memN ds t || alIn ds a with
    | true => clrL ds l
    | false => (t, a) :: clrL ds l
def clr (ds : List Nat) (st : TS) : TS := ⟨clrL ds st.al, 0⟩
noncomputable def evI : Nat → Opd
  | 0 => ev0
  | 1 => ev1
  | 2 => ev2
  | n => evN n
noncomputable def shA (ks : List Nat) (dep : Nat) : Al → Opd
  | .c v => evC v
  | .s t => match pth ks t with
    | some p => evS p
    | none => evC .bad
  | .e i => evI (Nat.sub (Nat.sub dep 1) i)
noncomputable def resA' (ks : List Nat) (st : TS) : X → Al
  | .c v => .c (vOf v)
  | .t i => match alGet st.al i with
    | some a => a
    | none => match pth ks i with
      | some _ => .s i
      | none => .c .bad
noncomputable def opd (ks : List Nat) (st : TS) (x : X) : Opd := shA ks st.dep (resA' ks st x)
/-- What is moved. -/
noncomputable def srcA (ks : List Nat) (st : TS) : AOp → Option Al
  | .mov x => some (resA' ks st x)
  | .lenc n => some (.c (.int .i64 n))
  | _ => none
def okAl (on : List Nat) (d : Nat) : Al → Bool
  | .s u => memN on u && Bool.not (Nat.beq u d)
  | _ => true
/-- A move that need not be done. -/
noncomputable def aliasT (ks on : List Nat) (nt : Nat) (st : TS) (r : AR) : Option TS := match r.guard with
  | some _ => none
  | none => match srcA ks st r.op with
    | none => none
    | some a => match r.dst with
      | none => some st
      | some d => match pth ks d with
        | some _ => none
        | none => match okAl on d a && Nat.blt d nt with
          | true => some ⟨(d, a) :: kill d st.al, st.dep⟩
          | false => none
def isS : Al → Bool
  | .s _ => true
  | _ => false
/-- Behind a slot that is written. -/
noncomputable def stK (ks on : List Nat) (st : TS) (r : AR) (d : Nat) : TS := match r.guard with
  | some _ => ⟨kill d st.al, st.dep⟩
  | none => match srcA ks st r.op with
    | none => ⟨kill d st.al, st.dep⟩
    | some a => match memN on d && Bool.not (isS a) with
      | true => ⟨(d, a) :: kill d st.al, st.dep⟩
      | false => ⟨kill d st.al, st.dep⟩
def stP (st : TS) (d : Nat) : TS := ⟨(d, .e st.dep) :: kill d st.al, Nat.succ st.dep⟩
noncomputable def cNo : Code := fun _ _ _ _ _ _ _ _ _ _ => false
noncomputable def insT : OpT → Dst → Code → Code
  | .mv x => iMov x
  | .v f => iVal f
  | .m f => iMem f
  | .c f => iCal f
noncomputable def gdO (ks : List Nat) (st : TS) : Option (Nat × Bool) → Option (Opd × Bool)
  | none => none
  | some (t, w) => some (opd ks st (.t t), w)
noncomputable def insG : Option (Opd × Bool) → OpT → Dst → Code → Code
  | none, o => insT o
  | some (g, w), o => iG g w (insT o)
noncomputable def emit (ks on : List Nat) (nt : Nat) (st : TS) (r : AR) (k : TS → Code) : Code := match r.dst with
  | none => insG (gdO ks st r.guard) (trO (opd ks st) r.op) dN (k st)
  | some d => match Nat.blt d nt with
    | false => cNo
    | true => match pth ks d with
      | some p => insG (gdO ks st r.guard) (trO (opd ks st) r.op) (dK p) (k (stK ks on st r d))
      | none => insG (gdO ks st r.guard) (trO (opd ks st) r.op) dP (k (stP st d))
noncomputable def trR (ks on : List Nat) (nt : Nat) : List AR → TS → (TS → Code) → Code
  | [], st, k => k st
  | r :: rs, st, k => match aliasT ks on nt st r with
    | some st' => trR ks on nt rs st' k
    | none => emit ks on nt st r fun st' => trR ks on nt rs st' k

/-! ### What is so -/
def AlR (ρ : Nat → Int) (dep : Nat) (E : List V) (ts : List AV) : Al → AV → Prop
  | .c v, a => VR ρ v a
  | .s u, a => a = ts.getD u (.tup [])
  | .e i, a => i < dep ∧ VR ρ (nthE (dep - 1 - i) E) a
structure Rel (ρ : Nat → Int) (ks : List Nat) (nt : Nat) (st : TS) (E : List V) (S : Tp V) (ts : List AV) : Prop where
  len : nt ≤ ts.length
  kept : ∀ t p, pth ks t = some p → VR ρ (orBad (Tp.get p S)) (ts.getD t (.tup []))
  al : ∀ t a, (t, a) ∈ st.al → AlR ρ st.dep E ts a (ts.getD t (.tup []))
structure KR (ρ : Nat → Int) (ks : List Nat) (nt : Nat) (S : Tp V) (ts : List AV) : Prop where
  len : nt ≤ ts.length
  kept : ∀ t p, pth ks t = some p → VR ρ (orBad (Tp.get p S)) (ts.getD t (.tup []))
theorem ixK_at : ∀ {ks : List Nat} {t k i : Nat}, ixK ks t k = some i → k ≤ i ∧ ks[i - k]? = some t
  | [], t, k, i, e => by cases e
  | u :: l, t, k, i, e => by
    unfold ixK at e
    cases h : Nat.beq u t <;> rw [h] at e
    · simp only at e
      obtain ⟨h1, h2⟩ := ixK_at e
      have h3 : k + 1 ≤ i := h1
      refine ⟨by omega, ?_⟩
      rw [show i - k = (i - Nat.succ k) + 1 by omega, List.getElem?_cons_succ]
      exact h2
    · cases e
      have := Nat.eq_of_beq_eq_true h
      subst this
      exact ⟨Nat.le_refl _, by simp⟩
theorem pth_inj {ks : List Nat} {t u : Nat} {p : Pa} (h1 : pth ks t = some p) (h2 : pth ks u = some p) : t = u := by
  have key : ∀ {t : Nat}, pth ks t = some p → ks[p.nat]? = some t := fun {t} h => by
    unfold pth at h
    cases hi : ixK ks t 0 with
    | none => rw [hi] at h; cases h
    | some i =>
      rw [hi] at h
      simp only at h
      cases hb : Nat.ble i 4095 <;> rw [hb] at h <;> cases h
      have := Nat.le_of_ble_eq_true hb
      rw [paOf_nat 12 i (by omega)]
      have := (ixK_at hi).2
      simpa using this
  have a := key h1
  have b := key h2
  rw [a] at b
  exact Option.some.inj b
theorem getD_set {ts : List AV} {d t : Nat} {a z : AV} (hd : d < ts.length) : (ts.set d a).getD t z = if t = d then a else ts.getD t z := by
  rw [List.getD_eq_getElem?_getD, List.getD_eq_getElem?_getD]
  by_cases h : t = d
  · subst h
    rw [if_pos rfl, List.getElem?_set_self hd]; rfl
  · rw [if_neg h, List.getElem?_set_ne (Ne.symm h)]
theorem kill_mem {d t : Nat} {a : Al} : ∀ {l : List (Nat × Al)}, (t, a) ∈ kill d l → (t, a) ∈ l ∧ t ≠ d ∧ alS d a = false
  | [], h => by cases h
  | (u, b) :: l, h => by
    unfold kill at h
    cases hb : (Nat.beq u d || alS d b) <;> rw [hb] at h
    · rcases List.mem_cons.1 h with h | h
      · cases h
        simp only [Bool.or_eq_false_iff] at hb
        exact ⟨by simp, Nat.ne_of_beq_eq_false hb.1, hb.2⟩
      · obtain ⟨h1, h2⟩ := kill_mem h
        exact ⟨List.mem_cons_of_mem _ h1, h2⟩
    · obtain ⟨h1, h2⟩ := kill_mem h
      exact ⟨List.mem_cons_of_mem _ h1, h2⟩
theorem alGet_mem {t : Nat} {a : Al} : ∀ {l : List (Nat × Al)}, alGet l t = some a → (t, a) ∈ l
  | [], h => by cases h
  | (u, b) :: l, h => by
    unfold alGet at h
    cases hb : Nat.beq u t <;> rw [hb] at h
    · exact List.mem_cons_of_mem _ (alGet_mem h)
    · cases h
      have := Nat.eq_of_beq_eq_true hb
      subst this
      simp
section
variable {ρ : Nat → Int} {ks on : List Nat} {nt : Nat} {st : TS} {E : List V} {S : Tp V} {ts : List AV}
theorem evI_eq (k : Nat) (κ : V → Bool) : evI k E S κ = κ (nthE k E) := by
  match k with
  | 0 => exact nthK_eq κ 0 E
  | 1 => exact nthK_eq κ 1 E
  | 2 => exact nthK_eq κ 2 E
  | n + 3 => exact nthK_eq κ (n + 3) E
theorem Rel.res (g : Rel ρ ks nt st E S ts) (x : X) : AlR ρ st.dep E ts (resA' ks st x) (x.ev ts) := by
  cases x with
  | c v => exact vOf_ok ρ v
  | t i =>
    cases h : alGet st.al i with
    | some a =>
      simp only [resA', h]
      exact g.al i a (alGet_mem h)
    | none =>
      cases hp : pth ks i with
      | some p =>
        simp only [resA', h, hp]
        rfl
      | none =>
        simp only [resA', h, hp]
        exact VR.bad _
theorem Rel.sh (g : Rel ρ ks nt st E S ts) {a : Al} {v : AV} (h : AlR ρ st.dep E ts a v) : OX ρ E S (shA ks st.dep a) v := by
  cases a with
  | c w => exact ⟨w, fun _ => rfl, h⟩
  | s u =>
    have h' : v = ts.getD u (.tup []) := h
    cases hp : pth ks u with
    | some p => simp only [shA, hp]; rw [h']; exact ⟨_, fun κ => evS_eq p E S κ, g.kept u p hp⟩
    | none => simp only [shA, hp]; exact ⟨_, fun _ => rfl, VR.bad _⟩
  | e i => exact ⟨_, fun κ => evI_eq (st.dep - 1 - i) κ, h.2⟩
theorem Rel.opd (g : Rel ρ ks nt st E S ts) (x : X) : OX ρ E S (opd ks st x) (x.ev ts) := g.sh (g.res x)
theorem Rel.kr (g : Rel ρ ks nt st E S ts) : KR ρ ks nt S ts := ⟨g.len, g.kept⟩
theorem AlR.set {dep : Nat} {a : Al} {v : AV} {d : Nat} {w : AV} (h : AlR ρ dep E ts a v) (hd : d < ts.length) (ha : alS d a = false) : AlR ρ dep E (ts.set d w) a v := by
  cases a with
  | c u => exact h
  | s u =>
    have hu : u ≠ d := Nat.ne_of_beq_eq_false ha
    show v = (ts.set d w).getD u (.tup [])
    rw [getD_set hd, if_neg hu]; exact h
  | e i => exact h
theorem AlR.push {dep : Nat} {a : Al} {v : AV} (h : AlR ρ dep E ts a v) (w : V) : AlR ρ (dep + 1) (w :: E) ts a v := by
  cases a with
  | c u => exact h
  | s u => exact h
  | e i =>
    refine ⟨Nat.lt_succ_of_lt h.1, ?_⟩
    have := h.1
    rw [show dep + 1 - 1 - i = (dep - 1 - i) + 1 by omega]
    exact h.2
theorem Rel.killed (g : Rel ρ ks nt st E S ts) {d : Nat} (hd : d < ts.length) (w : AV) : ∀ t a, (t, a) ∈ kill d st.al → AlR ρ st.dep E (ts.set d w) a ((ts.set d w).getD t (.tup [])) := fun t a h => by
  obtain ⟨h1, h2, h3⟩ := kill_mem h
  rw [getD_set hd, if_neg h2]
  exact (g.al t a h1).set hd h3
theorem Rel.keptP (g : Rel ρ ks nt st E S ts) {d : Nat} (hd : d < ts.length) {v : V} {w : AV} {p : Pa} (hp : pth ks d = some p) (hv : VR ρ v w) : ∀ t q, pth ks t = some q → VR ρ (orBad (Tp.get q (Tp.put (some v) p S))) ((ts.set d w).getD t (.tup [])) := fun t q hq => by
  rw [getD_set hd]
  by_cases h : t = d
  · subst h
    rw [hp] at hq; cases hq
    rw [if_pos rfl, Tp.get_put_same]; exact hv
  · rw [if_neg h, Tp.get_put_ne _ _ _ _ (fun e => h (pth_inj (by rw [← e]; exact hq) hp))]
    exact g.kept t q hq
theorem Rel.keptN (g : Rel ρ ks nt st E S ts) {d : Nat} (hd : d < ts.length) {w : AV} (hp : pth ks d = none) : ∀ t q, pth ks t = some q → VR ρ (orBad (Tp.get q S)) ((ts.set d w).getD t (.tup [])) := fun t q hq => by
  rw [getD_set hd]
  by_cases h : t = d
  · subst h; rw [hp] at hq; cases hq
  · rw [if_neg h]; exact g.kept t q hq
/-- A value is laid into a slot. -/
theorem Rel.putK (g : Rel ρ ks nt st E S ts) {d : Nat} (hd : d < nt) {v : V} {w : AV} {p : Pa} (hp : pth ks d = some p) (hv : VR ρ v w) : Rel ρ ks nt ⟨kill d st.al, st.dep⟩ E (Tp.put (some v) p S) (ts.set d w) :=
  ⟨by rw [List.length_set]; exact g.len, g.keptP (Nat.lt_of_lt_of_le hd g.len) hp hv, g.killed (Nat.lt_of_lt_of_le hd g.len) w⟩
theorem Rel.putP (g : Rel ρ ks nt st E S ts) {d : Nat} (hd : d < nt) {v : V} {w : AV} (hp : pth ks d = none) (hv : VR ρ v w) : Rel ρ ks nt (stP st d) (v :: E) S (ts.set d w) := by
  have hd' : d < ts.length := Nat.lt_of_lt_of_le hd g.len
  refine ⟨by rw [List.length_set]; exact g.len, g.keptN hd' hp, fun t a h => ?_⟩
  rcases List.mem_cons.1 h with h | h
  · cases h
    rw [getD_set hd', if_pos rfl]
    refine ⟨Nat.lt_succ_self _, ?_⟩
    show VR ρ (nthE (st.dep + 1 - 1 - st.dep) (v :: E)) w
    rw [show st.dep + 1 - 1 - st.dep = 0 by omega]
    exact hv
  · exact (g.killed hd' w t a h).push v
/-- A name more for a value. -/
theorem AlR.name {dep : Nat} {a : Al} {d : Nat} {w : AV} (h : AlR ρ dep E ts a w) (hd : d < ts.length) (ha : alS d a = false) : AlR ρ dep E (ts.set d w) a ((ts.set d w).getD d (.tup [])) := by
  rw [getD_set hd, if_pos rfl]
  exact h.set hd ha
end
end Go.Proofs.YtamfoplfbidolaaGreatDoorX
/- The second executor: operations one behind the other do what the engine's do. -/
namespace Go.Proofs.YtamfoplfbidolaaGreatDoorX
open Go Go.Proofs.YtamfoplfbidolaaGreatDoorE Go.Proofs.YtamfoplfbidolaaGreatDoorB
set_option linter.unusedVariables false
set_option linter.unusedSimpArgs false

section
variable {ρ : Nat → Int} {ks on : List Nat} {nt : Nat}
/-- The answer of code, beside the engine's. -/
def RCE (ρ : Nat → Int) (ks : List Nat) (nt : Nat) (tc wr : Nat) (rc : Ke → Bool) (x : Nat → Option (Rs (Ex × List AV))) : Prop :=
  ∀ κ, rc κ = true → ∃ e S m nx tc' wr', κ e S m nx tc' wr' = true ∧ ∃ s, Ev x s ∧ s.v.1 = e ∧ KR ρ ks nt S s.v.2 ∧ MR ρ m nx s.h ∧ s.nx = nx.nat ∧ tc' = tc ||| s.tc ∧ wr' = wr ||| s.wr
def KFit (ρ : Nat → Int) (ks : List Nat) (nt : Nat) (st : TS) (kt : Kt) (x : Nat → List AV → A (Ex × List AV)) : Prop :=
  ∀ E S ts m nx h, Rel ρ ks nt st E S ts → E.length = st.dep → MR ρ m nx h → ∀ lg tc wr, RCE ρ ks nt tc wr (kt E S m nx lg tc wr) (fun N => x N ts h nx.nat lg)
theorem KFit.shift {st : TS} {kt : Kt} {x : Nat → List AV → A (Ex × List AV)} (g : KFit ρ ks nt st kt x) : KFit ρ ks nt st kt (fun N => x (N + 1)) := fun E S ts m nx h hr hd hm lg tc wr κ he => by
  obtain ⟨e, S', m', nx', tc', wr', hκ, s, h1, h2⟩ := g E S ts m nx h hr hd hm lg tc wr κ he
  exact ⟨e, S', m', nx', tc', wr', hκ, s, h1.shift, h2⟩
theorem KFit.succ {st : TS} {kt : Kt} {x : Nat → List AV → A (Ex × List AV)} (g : KFit ρ ks nt st kt (fun N => x (N + 1))) : KFit ρ ks nt st kt x := fun E S ts m nx h hr hd hm lg tc wr κ he => by
  obtain ⟨e, S', m', nx', tc', wr', hκ, s, h1, h2⟩ := g E S ts m nx h hr hd hm lg tc wr κ he
  exact ⟨e, S', m', nx', tc', wr', hκ, s, Ev.succ h1, h2⟩
theorem KFit.eq {st : TS} {kt : Kt} {x y : Nat → List AV → A (Ex × List AV)} (g : KFit ρ ks nt st kt x) (e : ∀ N ts, x N ts = y N ts) : KFit ρ ks nt st kt y := by
  have : x = y := funext fun N => funext fun ts => e N ts
  rw [← this]; exact g
theorem KFit.no {st : TS} {x : Nat → List AV → A (Ex × List AV)} {c : Call2} {n : Nat} : KFit ρ ks nt st (cNo c n) x := fun E S ts m nx h hr hd hm lg tc wr κ he => by cases he
theorem RCE.up {tc wr t w : Nat} {rc : Ke → Bool} {α : Type} {x : Nat → A α} {f : Nat → α → A (Ex × List AV)} {h : Mem} {n lg : Nat} {r : Rs α} (e1 : Ev (fun N => x N h n lg) r) (g : RCE ρ ks nt (tc ||| r.tc) (wr ||| r.wr) rc (fun N => f N r.v r.h r.nx lg)) : RCE ρ ks nt tc wr rc (fun N => A.bind (x N) (f N) h n lg) := fun κ he => by
  obtain ⟨e, S, m, nx, tc', wr', hκ, s, h1, h2, h3, h4, h5, h6, h7⟩ := g κ he
  exact ⟨e, S, m, nx, tc', wr', hκ, _, Ev.bind e1 h1, h2, h3, h4, h5, by rw [h6, Nat.or_assoc], by rw [h7, Nat.or_assoc]⟩

/-- What an operation is to be, run. -/
theorem insT_run (o : OpT) (d : Dst) (k : Code) (c : Call2) (n : Nat) (E : List V) (S : Tp V) (m : Tm) (nx : Pa) (lg tc wr : Nat) (κ : Ke) :
    insT o d k c n E S m nx lg tc wr κ = o.fc c E S m nx lg tc wr (fun v m nx tc wr => d v (k c n) E S m nx lg tc wr κ) := by
  cases o <;> rfl
/-- Where a value goes. -/
structure Dok (ρ : Nat → Int) (ks : List Nat) (nt : Nat) (st st' : TS) (r : AR) (d : Dst) : Prop where
  go : ∀ E S ts v a, Rel ρ ks nt st E S ts → E.length = st.dep → VR ρ v a → (∀ al, r.guard = none → srcA ks st r.op = some al → AlR ρ st.dep E ts al a) →
    ∃ E' S', (∀ (kt : Kt) m nx lg tc wr κ, d v kt E S m nx lg tc wr κ = kt E' S' m nx lg tc wr κ) ∧ Rel ρ ks nt st' E' S' (putT ts r.dst a) ∧ E'.length = st'.dep
theorem srcA_ok {st : TS} {E : List V} {S : Tp V} {ts : List AV} (g : Rel ρ ks nt st E S ts) {o : AOp} {al : Al} (e : srcA ks st o = some al) {call : FuncId → List AV → A AV} {h : Mem} {n lg : Nat} {s : Rs AV} (hs : opRun call ts o h n lg = some s) : AlR ρ st.dep E ts al s.v := by
  cases o <;> simp only [srcA] at e <;> first | (cases e; done) | skip
  · rename_i x
    cases e
    simp only [opRun] at hs
    have := A.ret_inv hs
    subst this
    exact g.res x
  · rename_i k
    cases e
    simp only [opRun] at hs
    have := A.ret_inv hs
    subst this
    exact .int _ _
theorem gdB_ok {v : V} {a : AV} (g : VR ρ v a) {w b : Bool} (e : gdB v w = some b) {ts : List AV} {t : Nat} (ha : a = ts.getD t (.tup [])) : wantA ts (some (t, w)) = b := by
  have hw : wantA ts (some (t, w)) = (match (generalizing := false) a with | .bool b => b == w | _ => false) := by rw [ha]; rfl
  rw [hw]
  clear hw ha
  cases g <;> simp only [gdB, Option.some.injEq] at e <;> first | (cases e; done) | (subst e; rfl) | skip
  rename_i x
  rw [← e]
  cases x <;> cases w <;> rfl
/-- One operation, and what comes behind it. -/
theorem ins_fit {c : Call2} {call : Nat → FuncId → List AV → A AV} (hc : CallFit ρ c call) {n : Nat} {st st' : TS} {k : Code} {kx : Nat → List AV → A (Ex × List AV)} {r : AR} {d : Dst} (hk : KFit ρ ks nt st' (k c n) kx) (hd : Dok ρ ks nt st st' r d) :
    KFit ρ ks nt st (insG (gdO ks st r.guard) (trO (opd ks st) r.op) d k c n) (fun N ts => A.bind (stepR (call N) ts r) fun v => kx N (putT ts r.dst v)) := by
  intro E S ts m nx h hr hdep hm lg tc wr
  have core : ∀ (g : ∀ N, stepR (call N) ts r = opRun (call N) ts r.op), RCE ρ ks nt tc wr (insT (trO (opd ks st) r.op) d k c n E S m nx lg tc wr) (fun N => A.bind (stepR (call N) ts r) (fun v => kx N (putT ts r.dst v)) h nx.nat lg) := fun g κ he => by
    rw [insT_run] at he
    have fit := trO_fit hc (fun a => hr.opd a) hm r.op (E := E) (S := S) (ts := ts)
    obtain ⟨v, m', nx', tc', wr', hκ, s, h1, h2, h3, h4, h5, h6⟩ := fit lg tc wr _ he
    have hsrc : ∀ al, r.guard = none → srcA ks st r.op = some al → AlR ρ st.dep E ts al s.v := fun al _ e => by
      obtain ⟨N0, hN⟩ := h1
      exact srcA_ok hr e (hN N0 (Nat.le_refl _))
    obtain ⟨E', S', q1, q2, q3⟩ := hd.go E S ts v s.v hr hdep h2 hsrc
    rw [q1] at hκ
    have h1' : Ev (fun N => stepR (call N) ts r h nx.nat lg) s := by
      have : (fun N => stepR (call N) ts r h nx.nat lg) = fun N => opRun (call N) ts r.op h nx.nat lg := funext fun N => by rw [g N]
      rw [this]; exact h1
    refine RCE.up (t := 0) (w := 0) (rc := k c n E' S' m' nx' lg tc' wr') (f := fun N v => kx N (putT ts r.dst v)) h1' ?_ κ hκ
    have := hk E' S' (putT ts r.dst s.v) m' nx' s.h q2 q3 h3 lg tc' wr'
    rw [h5, h6] at this
    rw [← h4, h5, h6] at *
    exact this
  cases hg : r.guard with
  | none => exact core fun N => by unfold stepR wantA; rw [hg]
  | some p =>
    obtain ⟨t, w⟩ := p
    obtain ⟨u, hu, hv⟩ := hr.opd (.t t)
    intro κ he
    change opd ks st (.t t) E S (fun t => Option.rec (motive := fun _ => Bool) false (fun b => Bool.rec (motive := fun _ => Bool) (d (.tup []) (k c n) E S m nx lg tc wr κ) (insT (trO (opd ks st) r.op) d k c n E S m nx lg tc wr κ) b) (gdB t w)) = true at he
    rw [hu] at he
    cases hb : gdB u w with
    | none => rw [hb] at he; cases he
    | some b =>
      rw [hb] at he
      have hw := gdB_ok hv hb (ts := ts) (t := t) rfl
      cases b with
      | true =>
        refine core (fun N => ?_) κ he
        unfold stepR
        rw [hg, hw]
      | false =>
        have hstep : ∀ N, stepR (call N) ts r = A.ret (.tup []) := fun N => by
          unfold stepR
          rw [hg, hw]
        obtain ⟨E', S', q1, q2, q3⟩ := hd.go E S ts (.tup []) (.tup []) hr hdep (.tup _ _ .nil) (fun al h => by rw [hg] at h; cases h)
        change d (.tup []) (k c n) E S m nx lg tc wr κ = true at he
        rw [q1] at he
        have h1' : Ev (fun N => stepR (call N) ts r h nx.nat lg) ⟨.tup [], h, nx.nat, 0, 0⟩ := ⟨0, fun N _ => by show stepR (call N) ts r h nx.nat lg = _; rw [hstep N]; rfl⟩
        refine RCE.up (t := 0) (w := 0) (rc := k c n E' S' m nx lg tc wr) (f := fun N v => kx N (putT ts r.dst v)) h1' ?_ κ he
        have := hk E' S' (putT ts r.dst (.tup [])) m nx h q2 q3 hm lg tc wr
        simpa using this
theorem Dok.no {st : TS} {r : AR} (hd : r.dst = none) : Dok ρ ks nt st st r dN := ⟨fun E S ts v a hr hdep hv hs => ⟨E, S, fun _ _ _ _ _ _ _ => rfl, by rw [hd]; exact hr, hdep⟩⟩
theorem Dok.slot {st : TS} {r : AR} {d : Nat} {p : Pa} (hd : r.dst = some d) (hn : d < nt) (hp : pth ks d = some p) : Dok ρ ks nt st (stK ks on st r d) r (dK p) := ⟨fun E S ts v a hr hdep hv hs => by
  have base := hr.putK hn hp hv
  have hl : d < ts.length := Nat.lt_of_lt_of_le hn hr.len
  have key : Rel ρ ks nt (stK ks on st r d) E (Tp.put (some v) p S) (ts.set d a) ∧ (stK ks on st r d).dep = st.dep := by
    unfold stK
    cases hg : r.guard with
    | some q => exact ⟨base, rfl⟩
    | none =>
      simp only
      cases hsr : srcA ks st r.op with
      | none => exact ⟨base, rfl⟩
      | some al =>
        simp only
        cases hb : (memN on d && Bool.not (isS al)) with
        | false => exact ⟨base, rfl⟩
        | true =>
          simp only [Bool.and_eq_true] at hb
          refine ⟨⟨base.len, base.kept, fun t b h => ?_⟩, rfl⟩
          rcases List.mem_cons.1 h with h | h
          · cases h
            refine AlR.name (hs al hg hsr) hl ?_
            cases al <;> first | rfl | (exact absurd hb.2 (by simp [isS]))
          · exact base.al t b h
  refine ⟨E, Tp.put (some v) p S, fun kt m nx lg tc wr κ => putK_eq _ _ _ _, by rw [hd]; exact key.1, by rw [key.2]; exact hdep⟩⟩
theorem Dok.push {st : TS} {r : AR} {d : Nat} (hd : r.dst = some d) (hn : d < nt) (hp : pth ks d = none) : Dok ρ ks nt st (stP st d) r dP := ⟨fun E S ts v a hr hdep hv hs => ⟨v :: E, S, fun _ _ _ _ _ _ _ => rfl, by rw [hd]; exact hr.putP hn hp hv, by simp only [List.length_cons, hdep, stP]⟩⟩
/-- A move that is not done. -/
theorem alias_ok {st st' : TS} {r : AR} (e : aliasT ks on nt st r = some st') {E : List V} {S : Tp V} {ts : List AV} (hr : Rel ρ ks nt st E S ts) : ∃ a, (∀ (call : FuncId → List AV → A AV) h n lg, stepR call ts r h n lg = some ⟨a, h, n, 0, 0⟩) ∧ Rel ρ ks nt st' E S (putT ts r.dst a) ∧ st'.dep = st.dep := by
  unfold aliasT at e
  cases hg : r.guard with
  | some q => rw [hg] at e; cases e
  | none =>
    rw [hg] at e
    simp only at e
    cases hs : srcA ks st r.op with
    | none => rw [hs] at e; cases e
    | some al =>
      rw [hs] at e
      simp only at e
      have hrun : ∃ a, ∀ (call : FuncId → List AV → A AV) h n lg, opRun call ts r.op h n lg = some ⟨a, h, n, 0, 0⟩ := by
        cases ho : r.op <;> rw [ho] at hs <;> simp only [srcA] at hs <;> first | (cases hs; done) | skip
        · rename_i x; exact ⟨x.ev ts, fun call h n lg => rfl⟩
        · exact ⟨_, fun call h n lg => rfl⟩
      obtain ⟨a, ha⟩ := hrun
      have hal := srcA_ok hr hs (ha (fun _ _ => A.fail) Mem.empty 0 0)
      refine ⟨a, fun call h n lg => by unfold stepR wantA; rw [hg]; exact ha call h n lg, ?_⟩
      cases hd : r.dst with
      | none => rw [hd] at e; cases e; exact ⟨hr, rfl⟩
      | some d =>
        rw [hd] at e
        simp only at e
        cases hp : pth ks d with
        | some p => rw [hp] at e; cases e
        | none =>
          rw [hp] at e
          simp only at e
          cases hb : (okAl on d al && Nat.blt d nt) <;> rw [hb] at e <;> cases e
          simp only [Bool.and_eq_true] at hb
          have hn : d < nt := Nat.le_of_ble_eq_true hb.2
          have hl : d < ts.length := Nat.lt_of_lt_of_le hn hr.len
          refine ⟨⟨by rw [show putT ts (some d) a = ts.set d a from rfl, List.length_set]; exact hr.len, hr.keptN hl hp, fun t b h => ?_⟩, rfl⟩
          rcases List.mem_cons.1 h with h | h
          · cases h
            refine AlR.name hal hl ?_
            cases al <;> first | rfl | skip
            rename_i u
            have := hb.1
            simp only [okAl, Bool.and_eq_true, Bool.not_eq_true'] at this
            exact this.2
          · exact hr.killed hl a t b h
/-- Operations in the order of the text. -/
theorem trR_fit {c : Call2} {call : Nat → FuncId → List AV → A AV} (hc : CallFit ρ c call) {n : Nat} {k : TS → Code} {kx : Nat → List AV → A (Ex × List AV)} (hk : ∀ st, KFit ρ ks nt st (k st c n) kx) :
    ∀ (rs : List AR) (st : TS), KFit ρ ks nt st (trR ks on nt rs st k c n) (fun N ts => A.bind (regRun (call N) rs ts) (kx N))
  | [], st => (hk st).eq fun N ts => by
    show kx N ts = A.bind (A.ret ts) (kx N)
    rw [A.bind_ret']
  | r :: rs, st => by
    have step : ∀ N ts, A.bind (regRun (call N) (r :: rs) ts) (kx N) = A.bind (stepR (call N) ts r) fun v => A.bind (regRun (call N) rs (putT ts r.dst v)) (kx N) := fun N ts => by
      show A.bind (A.bind (stepR (call N) ts r) fun v => regRun (call N) rs (putT ts r.dst v)) (kx N) = _
      rw [A.bind_assoc]
    have ih := trR_fit hc hk rs
    have go : ∀ {st' : TS} {d : Dst}, Dok ρ ks nt st st' r d → KFit ρ ks nt st (insG (gdO ks st r.guard) (trO (opd ks st) r.op) d (trR ks on nt rs st' k) c n) (fun N ts => A.bind (regRun (call N) (r :: rs) ts) (kx N)) := fun {st' d} hd => (ins_fit hc (ih st') hd).eq fun N ts => (step N ts).symm
    unfold trR
    cases ha : aliasT ks on nt st r with
    | some st' =>
      simp only
      intro E S ts m nx h hr hdep hm lg tc wr
      obtain ⟨a, q1, q2, q3⟩ := alias_ok ha hr
      have h1' : Ev (fun N => stepR (call N) ts r h nx.nat lg) ⟨a, h, nx.nat, 0, 0⟩ := ⟨0, fun N _ => q1 (call N) h nx.nat lg⟩
      have hstep : (fun N => A.bind (regRun (call N) (r :: rs) ts) (kx N) h nx.nat lg) = fun N => A.bind (stepR (call N) ts r) (fun v => A.bind (regRun (call N) rs (putT ts r.dst v)) (kx N)) h nx.nat lg := funext fun N => by rw [step N ts]
      rw [hstep]
      refine RCE.up (t := 0) (w := 0) (f := fun N v => A.bind (regRun (call N) rs (putT ts r.dst v)) (kx N)) h1' ?_
      have := ih st' E S (putT ts r.dst a) m nx h q2 (by rw [q3]; exact hdep) hm lg tc wr
      simpa using this
    | none =>
      simp only
      unfold emit
      cases hd : r.dst with
      | none => exact go (Dok.no hd)
      | some d =>
        simp only
        cases hn : Nat.blt d nt with
        | false => exact KFit.no
        | true =>
          have hn' : d < nt := Nat.le_of_ble_eq_true hn
          simp only
          cases hp : pth ks d with
          | some p => exact go (Dok.slot hd hn' hp)
          | none => exact go (Dok.push hd hn' hp)
end
end Go.Proofs.YtamfoplfbidolaaGreatDoorX

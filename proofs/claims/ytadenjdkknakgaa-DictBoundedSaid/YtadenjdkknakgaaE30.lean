/- The engine, part 30: arguments with slices inside. -/
import Derived.Test.YtadenjdkknakgaaE29
namespace Go.Proofs.YtadenjdkknakgaaE
open Go Go.RowKit
set_option linter.unusedVariables false
set_option linter.unusedSimpArgs false

/-- What a cell is: a plain one, or a slice of such. -/
inductive Kd where
  | l (k : Leaf)
  | sl (ks : List Kd)
  /-- a struct by value, as an argument -/
  | ag (ks : List Kd)
mutual
def KdV (h : Mem) (nx : Nat) : Kd → AV → Prop
  | .l k, x => LeafV k x
  | .sl ks, x => x = .nils ∨ ∃ (b cap : Nat) (l : List (List AV)), x = .slc b 0 l.length (some cap) ∧ l.length ≤ maxLen ∧ l.length ≤ cap ∧ b < nx ∧ (l ≠ [] → ∃ (K : Blk) (r : List AV), h.blk b = some K ∧ K.cells = l.flatten ++ r) ∧ ∀ y ∈ l, KdsV h nx ks y
  | .ag ks, x => ∃ xs, x = .agg xs ∧ KdsV h nx ks xs
def KdsV (h : Mem) (nx : Nat) : List Kd → List AV → Prop
  | [], xs => xs = []
  | k :: ks, xs => ∃ x ys, xs = x :: ys ∧ KdV h nx k x ∧ KdsV h nx ks ys
end
mutual
theorem KdV.keep {h h' : Mem} {nx nx' : Nat} (hn : nx ≤ nx') (e : ∀ b, b < nx → h'.blk b = h.blk b) : ∀ (k : Kd) (x : AV), KdV h nx k x → KdV h' nx' k x
  | .l k, x, g => by simpa only [KdV] using g
  | .sl ks, x, g => by
    simp only [KdV] at g ⊢
    rcases g with g | ⟨b, cap, l, g1, g2, g3, q1, g4, g5⟩
    · exact .inl g
    · refine .inr ⟨b, cap, l, g1, g2, g3, by omega, fun hl => ?_, fun y hy => KdsV.keep hn e ks y (g5 y hy)⟩
      obtain ⟨K, r, q2, q3⟩ := g4 hl
      exact ⟨K, r, (e b q1).trans q2, q3⟩
  | .ag ks, x, g => by
    simp only [KdV] at g ⊢
    obtain ⟨xs, g1, g2⟩ := g
    exact ⟨xs, g1, KdsV.keep hn e ks xs g2⟩
theorem KdsV.keep {h h' : Mem} {nx nx' : Nat} (hn : nx ≤ nx') (e : ∀ b, b < nx → h'.blk b = h.blk b) : ∀ (ks : List Kd) (xs : List AV), KdsV h nx ks xs → KdsV h' nx' ks xs
  | [], xs, g => by simpa only [KdsV] using g
  | k :: ks, xs, g => by
    simp only [KdsV] at g ⊢
    obtain ⟨x, ys, g1, g2, g3⟩ := g
    exact ⟨x, ys, g1, KdV.keep hn e k x g2, KdsV.keep hn e ks ys g3⟩
end
theorem KdsV.length {h : Mem} {nx : Nat} : ∀ {ks : List Kd} {xs : List AV}, KdsV h nx ks xs → xs.length = ks.length
  | [], _, h => by simp only [KdsV] at h; subst h; rfl
  | k :: ks, _, h => by
    simp only [KdsV] at h
    obtain ⟨x, ys, rfl, _, h⟩ := h
    simp [KdsV.length h]
theorem KdsV.append {h : Mem} {nx : Nat} : ∀ {ks ks' : List Kd} {xs ys : List AV}, KdsV h nx ks xs → KdsV h nx ks' ys → KdsV h nx (ks ++ ks') (xs ++ ys)
  | [], ks', _, ys, h, h' => by simp only [KdsV] at h; subst h; exact h'
  | k :: ks, ks', _, ys, h, h' => by
    simp only [KdsV] at h
    obtain ⟨x, xs, rfl, hx, h⟩ := h
    simp only [List.cons_append, KdsV]
    exact ⟨x, xs ++ ys, rfl, hx, KdsV.append h h'⟩
theorem KdsV.flatten {h : Mem} {nx : Nat} {ks : List Kd} : ∀ {zs : List (List AV)}, (∀ z ∈ zs, KdsV h nx ks z) → zs.flatten.length = zs.length * ks.length
  | [], _ => by simp
  | z :: zs, g => by
    rw [List.flatten_cons, List.length_append, (g z (by simp)).length, KdsV.flatten (fun z hz => g z (by simp [hz])), List.length_cons, Nat.succ_mul]
    omega

def kindsP (P : Program) (r : TypeId → Option (List Kd)) : List (Nat × TypeId) → Nat → Option (List Kd)
  | [], _ => some []
  | (o, t) :: ps, n => match r t with
    | none => none
    | some ks => match Nat.beq o n && Nat.beq (P.cellsOf t) ks.length with
      | false => none
      | true => (kindsP P r ps (n + ks.length)).map (ks ++ ·)
/-- The cells of a type. -/
def kinds (P : Program) : Nat → TypeId → Option (List Kd)
  | 0, _ => none
  | n + 1, t => match P.underlying t with
    | some .bool => some [.l .b]
    | some (.int k) => some [.l (.i k)]
    | some .string => some [.l .s]
    | some (.struct fs) => match kindsP P (kinds P n) (fs.toList.map fun f => (f.offset, f.type)) 0 with
      | some ks => match Nat.beq (P.cellsOf t) ks.length with
        | true => some ks
        | false => none
      | none => none
    | some (.array m e) => match kindsP P (kinds P n) ((List.range m).map fun i => (i * P.cellsOf e, e)) 0 with
      | some ks => match Nat.beq (P.cellsOf t) ks.length with
        | true => some ks
        | false => none
      | none => none
    | some (.slice e) => match kinds P n e with
      | some ks => match Nat.beq (P.cellsOf e) ks.length && Nat.blt 0 ks.length with
        | true => some [.sl ks]
        | false => none
      | none => none
    | _ => none

/-- What is laid so far: read-only blocks below n. -/
structure Laid (B : Nat) (w : World) (n : Nat) (h : Mem) (m : Mp) : Prop where
  hr : HR B m h w
  ro : ∀ b k, h.blk b = some k → k.own = false
  free : ∀ b, n ≤ b → m b = none
structure Exl (B : Nat) (w : World) (n : Nat) (h : Mem) (m : Mp) (n' : Nat) (h' : Mem) (m' : Mp) : Prop where
  le : n ≤ n'
  mle : m.le m'
  laid : Laid B w n' h' m'
  same : ∀ b, b < n → h'.blk b = h.blk b
theorem Exl.refl {B : Nat} {w : World} {n : Nat} {h : Mem} {m : Mp} (l : Laid B w n h m) : Exl B w n h m n h m := ⟨Nat.le_refl _, Mp.le_refl m, l, fun _ _ => rfl⟩
theorem Exl.trans {B : Nat} {w : World} {n n1 n2 : Nat} {h h1 h2 : Mem} {m m1 m2 : Mp} (a : Exl B w n h m n1 h1 m1) (b : Exl B w n1 h1 m1 n2 h2 m2) : Exl B w n h m n2 h2 m2 :=
  ⟨Nat.le_trans a.le b.le, Mp.le_trans a.mle b.mle, b.laid, fun x hx => (b.same x (Nat.lt_of_lt_of_le hx a.le)).trans (a.same x hx)⟩
/-- These cells can be laid, as these kinds. -/
def Lay (B : Nat) (w : World) (ks : List Kd) (cs : List Value) : Prop := ∀ n h m, Laid B w n h m → ∃ n' h' m' xs, Exl B w n h m n' h' m' ∧ VRs m' xs cs ∧ KdsV h' n' ks xs

section
variable {H : Type} {enc : TypeId × Value → H} {P : Program} {w : World} {base B : Nat} {held : Bool}

theorem Lay.append {ks ks' : List Kd} {cs cs' : List Value} (a : Lay B w ks cs) (b : Lay B w ks' cs') : Lay B w (ks ++ ks') (cs ++ cs') := by
  intro n h m l
  obtain ⟨n1, h1, m1, xs, e1, v1, k1⟩ := a n h m l
  obtain ⟨n2, h2, m2, ys, e2, v2, k2⟩ := b n1 h1 m1 e1.laid
  exact ⟨n2, h2, m2, xs ++ ys, e1.trans e2, (VRs.mono e2.mle _ _ v1).append v2, (KdsV.keep e2.le e2.same _ _ k1).append k2⟩
theorem Lay.nil : Lay B w [] [] := fun n h m l => ⟨n, h, m, [], Exl.refl l, VRs.nil, rfl⟩
theorem layP {r : TypeId → Option (List Kd)} {cs : List Value} : ∀ (ps : List (Nat × TypeId)) (n : Nat) {ks : List Kd}, kindsP P r ps n = some ks →
    (∀ p ∈ ps, ∀ ks, r p.2 = some ks → Lay B w ks ((cs.drop p.1).take (P.cellsOf p.2))) → Lay B w ks ((cs.drop n).take ks.length)
  | [], n, ks, h, _ => by
    cases h
    exact Lay.nil
  | (o, t) :: ps, n, ks, h, hp => by
    unfold kindsP at h
    cases hr : r t with
    | none => rw [hr] at h; cases h
    | some k1 =>
      rw [hr] at h
      simp only at h
      cases hb : Nat.beq o n && Nat.beq (P.cellsOf t) k1.length with
      | false => rw [hb] at h; cases h
      | true =>
        rw [hb] at h
        simp only [Option.map_eq_some_iff] at h
        obtain ⟨k2, h2, rfl⟩ := h
        rw [Bool.and_eq_true] at hb
        obtain rfl := Nat.eq_of_beq_eq_true hb.1
        have hc := Nat.eq_of_beq_eq_true hb.2
        have a := hp (o, t) (by simp) k1 hr
        simp only [hc] at a
        have b := layP ps (o + k1.length) h2 (fun p hp' => hp p (by simp [hp']))
        have := a.append b
        rwa [List.length_append, List.take_add, List.drop_drop]
theorem lay_rows {ks : List Kd} {a : Addr} {c cap : Nat} (hel : ∀ i, i < cap → ∃ cs, w.cells? base (a.add (i * c)) c = some cs ∧ Lay B w ks cs) : ∀ q, q ≤ cap → ∀ n h m, Laid B w n h m →
    ∃ (n' : Nat) (h' : Mem) (m' : Mp) (vs : List Value) (zs : List (List AV)), Exl B w n h m n' h' m' ∧ vs.length = q * c ∧ zs.length = q ∧ (∀ z ∈ zs, KdsV h' n' ks z) ∧ VRs m' zs.flatten vs ∧ ∀ i v, vs[i]? = some v → w.cell? (a.add i) = some v
  | 0, _, n, h, m, l => ⟨n, h, m, [], [], Exl.refl l, by simp, rfl, (fun _ h => nomatch h), VRs.nil, fun i v h => by simp at h⟩
  | q + 1, hq, n, h, m, l => by
    obtain ⟨n1, h1, m1, vs, zs, e1, g1, g2, g3, g4, g5⟩ := lay_rows hel q (by omega) n h m l
    obtain ⟨cs, hc, L⟩ := hel q (by omega)
    obtain ⟨_, hcl, hcc⟩ := World.cells?_some hc
    obtain ⟨n2, h2, m2, xs, e2, v2, k2⟩ := L n1 h1 m1 e1.laid
    refine ⟨n2, h2, m2, vs ++ cs, zs ++ [xs], e1.trans e2, by rw [List.length_append, g1, hcl, Nat.succ_mul], by simp [g2], ?_, ?_, ?_⟩
    · intro z hz
      rcases List.mem_append.1 hz with hz | hz
      · exact KdsV.keep e2.le e2.same _ _ (g3 z hz)
      · rw [List.mem_singleton.1 hz]; exact k2
    · rw [List.flatten_append, List.flatten_singleton]
      exact (VRs.mono e2.mle _ _ g4).append v2
    · intro i v hv
      by_cases hi : i < vs.length
      · rw [List.getElem?_append_left hi] at hv
        exact g5 i v hv
      · rw [List.getElem?_append_right (by omega)] at hv
        have hi2 : i - vs.length < cs.length := (List.getElem?_eq_some_iff.1 hv).1
        have := hcc (i - vs.length) (by omega)
        rw [hv, add_add, g1] at this
        rw [← this]
        congr 2
        omega
theorem lay_row {ks : List Kd} {a : Addr} {len cap : Nat} (hk : 0 < ks.length) (hl : len ≤ cap) (hm : cap ≤ maxLen) (hel : ∀ i, i < cap → ∃ cs, w.cells? base (a.add (i * ks.length)) ks.length = some cs ∧ Lay B w ks cs) : Lay B w [.sl ks] [.slice (some a) len cap] := by
  intro n h m l
  obtain ⟨n1, h1, m1, vs, zs, e1, g1, g2, g3, g4, g5⟩ := lay_rows hel cap (Nat.le_refl _) n h m l
  have hr := e1.laid.hr
  have hn : m1 n1 = none := e1.laid.free n1 (Nat.le_refl _)
  have hzl := KdsV.flatten g3
  cases cap with
  | zero =>
    have hlen0 : len = 0 := by omega
    subst hlen0
    refine ⟨n1 + 1, h1, m1.up n1 ⟨0, 0, 0, 0, false⟩, [.slc n1 0 0 (some 0)], ?_, ?_, ?_⟩
    · refine e1.trans ⟨Nat.le_succ _, Mp.le_up m1 n1 _ (.inl hn), ⟨⟨hr.base, fun b k hb => ?_, fun b b' k k' l l' hne hb ho hb' hl hl' => ?_⟩, e1.laid.ro, fun b hb => ?_⟩, fun _ _ => rfl⟩
      · obtain ⟨l, hl, hh⟩ := hr.held b k hb
        exact ⟨l, Mp.le_up m1 n1 _ (.inl hn) b l hl, hh.mono (Mp.le_up m1 n1 _ (.inl hn))⟩
      · rw [e1.laid.ro b k hb] at ho; cases ho
      · unfold Mp.up; rw [if_neg (by omega)]; exact e1.laid.free b (by omega)
    · refine VRs.cons_iff.2 ⟨?_, VRs.nil⟩
      simp only [VR]
      exact ⟨⟨0, 0, 0, 0, false⟩, a, 0, up_at .., rfl, rfl, Nat.le_refl _, .inl rfl, rfl⟩
    · simp only [KdsV, KdV]
      exact ⟨_, [], rfl, .inr ⟨n1, 0, [], rfl, Nat.zero_le _, Nat.le_refl _, Nat.lt_succ_self _, (fun h => absurd rfl h), fun y hy => nomatch hy⟩, rfl⟩
  | succ cap =>
    have hpos : 0 < vs.length := by rw [g1]; exact Nat.mul_pos (Nat.succ_pos _) hk
    have h0 := g5 0 _ (List.getElem?_eq_getElem hpos)
    have ha0 : a.add 0 = a := by unfold Addr.add; simp
    rw [ha0] at h0
    have hsp : a.spot = none := by
      cases hs : a.spot with
      | none => rfl
      | some q =>
        unfold World.cell? at h0
        split at h0
        · rw [hs] at h0; simp at h0
        · cases h0
    obtain ⟨ab, ao, asp⟩ := a
    simp only at hsp
    subst hsp
    obtain ⟨c, t, fz, hblk⟩ : ∃ c t fz, w.heap[ab]? = some (.cells c t fz) := by
      unfold World.cell? at h0
      split at h0
      · rename_i c t fz hb; exact ⟨c, t, fz, hb⟩
      · cases h0
    have hcell : ∀ i v, vs[i]? = some v → c[ao + i]? = some v := fun i v hi => by
      have := g5 i v hi
      rw [add_lit, cell_at hblk] at this
      exact this
    have hsize : ao + vs.length ≤ c.size := by
      have := hcell (vs.length - 1) _ (List.getElem?_eq_getElem (by omega))
      have := (Array.getElem?_eq_some_iff.1 this).1
      omega
    have hvl := g4.length
    have mup := Mp.le_up m1 n1 ⟨ab, ao, vs.length, ks.length, false⟩ (.inl hn)
    have hr1 : HR B (m1.up n1 ⟨ab, ao, vs.length, ks.length, false⟩) (h1.set n1 (some ⟨0, ks.length, false, false, zs.flatten⟩)) w := by
      have hr2 : HR B m1 h1 w := hr
      refine HR.addRo hr2 e1.laid.ro n1 _ _ hn rfl ⟨⟨c, t, fz, hblk, hsize, (fun h => nomatch h), vs, VRs.mono mup _ _ g4, fun j hj => ?_⟩, (by simp only; omega), (fun h => nomatch h), (fun h => nomatch h)⟩
      rw [hcell j _ (List.getElem?_eq_getElem hj), List.getElem?_eq_getElem hj]
    have sm : ∀ b, b < n1 → (h1.set n1 (some ⟨0, ks.length, false, false, zs.flatten⟩)).blk b = h1.blk b := fun b hb => Mem.blk_set_ne _ _ _ _ (by omega)
    refine ⟨n1 + 1, h1.set n1 (some ⟨0, ks.length, false, false, zs.flatten⟩), m1.up n1 ⟨ab, ao, vs.length, ks.length, false⟩, [.slc n1 0 len (some (cap + 1))], ?_, ?_, ?_⟩
    · refine e1.trans ⟨Nat.le_succ _, mup, ⟨hr1, fun b k hb => ?_, fun b hb => ?_⟩, sm⟩
      · rw [Mem.blk_set] at hb
        split at hb
        · cases hb; rfl
        · exact e1.laid.ro b k hb
      · unfold Mp.up; rw [if_neg (by omega)]; exact e1.laid.free b (by omega)
    · refine VRs.cons_iff.2 ⟨?_, VRs.nil⟩
      simp only [VR]
      exact ⟨_, _, _, up_at .., rfl, rfl, hl, .inr (by simp), rfl⟩
    · simp only [KdsV, KdV]
      have tl : (zs.take len).length = len := by rw [List.length_take]; omega
      refine ⟨_, [], rfl, .inr ⟨n1, cap + 1, zs.take len, by rw [tl], by rw [tl]; omega, by rw [tl]; omega, Nat.lt_succ_self _, fun _ => ⟨_, (zs.drop len).flatten, Mem.blk_set_same .., ?_⟩, fun y hy => KdsV.keep (Nat.le_succ _) sm _ _ (g3 y (List.mem_of_mem_take hy))⟩, rfl⟩
      rw [← List.flatten_append, List.take_append_drop]
theorem lay_leaf {k : Leaf} {v : Value} {x : AV} (h1 : ofVals [v] = some [x]) (h2 : LeafV k x) : Lay B w [.l k] [v] := fun n h m l =>
  ⟨n, h, m, [x], Exl.refl l, VRs.of_vals m h1, by simp only [KdsV, KdV]; exact ⟨x, [], rfl, h2, rfl⟩⟩
theorem lay_of_trod : ∀ (d : Nat) {t : TypeId} {ks : List Kd}, kinds P d t = some ks → ∀ {fuel : Nat} {cs : List Value} {x : DataW H × List MemPlace}, DataW.trod enc P w base (fun _ => true) held fuel t cs = some x → Lay B w ks cs
  | 0, t, ks, h, _, _, _, _ => by cases h
  | d + 1, t, ks, h, fuel, cs, x, hx => by
    unfold kinds at h
    split at h
    · rename_i hu
      cases h
      obtain ⟨b, rfl, _⟩ := DataW.trod_bool hu hx
      exact lay_leaf (x := .bool b) rfl ⟨b, rfl⟩
    · rename_i k hu
      cases h
      obtain ⟨n, rfl, _, hw⟩ := DataW.trod_int hu hx
      exact lay_leaf (x := .int k n) rfl ⟨n, rfl, hw⟩
    · rename_i hu
      cases h
      obtain ⟨s, rfl, _, hw⟩ := DataW.trod_string hu hx
      exact lay_leaf (x := .str s) rfl ⟨s, rfl, hw⟩
    · rename_i fs hu
      split at h
      · rename_i ks' hk
        split at h
        · rename_i hb
          cases h
          obtain ⟨xs, n, _, _, hl, hxl, hf⟩ := DataW.trod_struct hu hx
          have hc := Nat.eq_of_beq_eq_true hb
          have := layP (P := P) (cs := cs) (B := B) (w := w) _ 0 hk (fun p hp ks1 hr => by
            obtain ⟨f, hf', rfl⟩ := List.mem_map.1 hp
            obtain ⟨i, hi⟩ := List.getElem?_of_mem hf'
            have hi' : fs[i]? = some f := by rw [← hi]; simp
            have hii : i < fs.size := (Array.getElem?_eq_some_iff.1 hi').1
            have g := hf i f hi'
            rw [List.getElem?_eq_getElem (by omega)] at g
            exact lay_of_trod d hr g)
          rw [List.drop_zero, List.take_of_length_le (by omega)] at this
          exact this
        · cases h
      · cases h
    · rename_i m e hu
      split at h
      · rename_i ks' hk
        split at h
        · rename_i hb
          cases h
          obtain ⟨n, hl, hf⟩ := trod_array hu hx
          have hc := Nat.eq_of_beq_eq_true hb
          have := layP (P := P) (cs := cs) (B := B) (w := w) _ 0 hk (fun p hp ks1 hr => by
            obtain ⟨i, hi, rfl⟩ := List.mem_map.1 hp
            obtain ⟨y, hy⟩ := hf i (List.mem_range.1 hi)
            exact lay_of_trod d hr hy)
          rw [List.drop_zero, List.take_of_length_le (by omega)] at this
          exact this
        · cases h
      · cases h
    · rename_i e hu
      split at h
      · rename_i ks' hk
        split at h
        · rename_i hb
          cases h
          rw [Bool.and_eq_true] at hb
          have hc := Nat.eq_of_beq_eq_true hb.1
          have hpos : 0 < ks'.length := by have := hb.2; simp [Nat.blt] at this; omega
          rcases DataW.trod_slice hu hx with ⟨h0, _⟩ | ⟨y, l, c, elems, rest, n, _, h0, _, hb', hl, hm, hlen, hel, hsp, _⟩
          · subst h0
            exact fun n h m l => ⟨n, h, m, [.nils], Exl.refl l, VRs.cons_iff.2 ⟨by simp only [VR], VRs.nil⟩, by simp only [KdsV, KdV]; exact ⟨_, [], rfl, .inl rfl, rfl⟩⟩
          · subst h0
            obtain ⟨hr, hre⟩ := hsp rfl
            refine lay_row (base := base) hpos hl hm ?_
            rw [← hc]
            intro i hi
            by_cases hc' : i < l
            · have g := hel i hc'
              rw [List.getElem?_eq_getElem (by omega), Option.bind_eq_some_iff] at g
              obtain ⟨cs, g1, g2⟩ := g
              exact ⟨cs, g1, lay_of_trod d hk g2⟩
            · have g := hre (i - l) (by omega)
              rw [show l + (i - l) = i by omega, List.getElem?_eq_getElem (by omega), Option.bind_eq_some_iff] at g
              obtain ⟨cs, g1, g2⟩ := g
              exact ⟨cs, g1, lay_of_trod d hk g2⟩
        · cases h
      · cases h
    · cases h
theorem Lay.agg {ks : List Kd} {ys : List Value} (a : Lay B w ks ys) : Lay B w [.ag ks] [.agg ys.toArray] := fun n h m l => by
  obtain ⟨n1, h1, m1, xs, e1, v1, k1⟩ := a n h m l
  refine ⟨n1, h1, m1, [.agg xs], e1, VRs.cons_iff.2 ⟨by simp only [VR]; exact ⟨ys, rfl, v1⟩, VRs.nil⟩, ?_⟩
  simp only [KdsV, KdV]
  exact ⟨_, [], rfl, ⟨xs, rfl, k1⟩, rfl⟩
theorem lay_int {k : IntKind} {n : Int} (h : (Lit.int k n).wf = true) : Lay B w [.l (.i k)] [.int k n] := lay_leaf (x := .int k n) rfl ⟨n, rfl, h⟩
theorem lay_bool (b : Bool) : Lay B w [.l .b] [.bool b] := lay_leaf (x := .bool b) rfl ⟨b, rfl⟩
theorem lay_trod {d : Nat} {t : TypeId} {ks : List Kd} (hk : kinds P d t = some ks) {v : Value} {D : DataW H} {ps : List MemPlace} (h : DataW.Trod enc P w base (fun _ => true) held t v D ps) : Lay B w ks v.cells.toList := by
  obtain ⟨fuel, hf⟩ := h
  exact lay_of_trod d hk hf
end
theorem laid_none (w : World) : Laid w.heap.size w 0 Mem.empty (fun _ => none) := ⟨⟨Nat.le_refl _, (fun b k hb => by rw [Mem.blk_empty] at hb; cases hb), (fun b b' k k' l l' hne hb => by rw [Mem.blk_empty] at hb; cases hb)⟩, (fun b k hb => by rw [Mem.blk_empty] at hb; cases hb), fun b _ => rfl⟩
/-- A law whose arguments are laid, and that the engine runs to 'true' whatever they are. -/
theorem lay_calls {P : Program} {T : FuncId → Option AF} (hT : TableOk P T) (f : FuncId) {ks : List Kd} {vals : List Value} (w : World) (L : Lay w.heap.size w ks vals) (law : ∀ (h : Mem) (p : Nat) (avs : List AV), KdsV h p ks avs → Yes T f avs h p) :
    Calls P f vals.toArray w fun e w' => e = .returned (.bool true) ∧ Below w.heap.size w w' := by
  obtain ⟨n, h, m, avs, e0, v0, k0⟩ := L 0 Mem.empty _ (laid_none w)
  obtain ⟨fuel, h', n', tc, wr, e⟩ := law h n avs k0
  refine (call_sound hT fuel f _ _ _ 0 _ _ m w.heap.size w (Nat.zero_le _) e e0.laid.hr v0 (fun b h1 h2 => e0.laid.free b h1)).2.mono ?_
  rintro e' w' ⟨m', u, rfl, q1, q2, q3, q4, q5⟩
  rw [q3.bool_inv]
  exact ⟨rfl, q4⟩
theorem KdV.srow {h : Mem} {nx : Nat} {ks : List Kd} {x : AV} (g : KdV h nx (.sl ks) x) : ∃ l, SRow ks.length x h nx l ∧ l.length ≤ maxLen ∧ ∀ y ∈ l, KdsV h nx ks y := by
  simp only [KdV] at g
  rcases g with rfl | ⟨b, cap, l, rfl, g2, g3, q1, g4, g5⟩
  · exact ⟨[], .inl ⟨rfl, rfl⟩, Nat.zero_le _, fun y hy => nomatch hy⟩
  · refine ⟨l, .inr ⟨b, some cap, rfl, fun y hy => (g5 y hy).length, fun hl => ?_⟩, g2, g5⟩
    obtain ⟨K, r, q2, q3⟩ := g4 hl
    exact ⟨q1, K, q2, r, q3⟩
theorem SRow.rv {sz : Nat} {v : AV} {h : Mem} {nx : Nat} {l : List (List AV)} (r : SRow sz v h nx l) (hl : l ≠ [] ∨ v = .nils) : RV sz l.length v h 0 nx l.flatten := by
  rcases r with ⟨rfl, rfl⟩ | ⟨b, c, rfl, hs, g⟩
  · exact .inl ⟨rfl, rfl, rfl⟩
  · rcases hl with hl | hl
    · obtain ⟨h1, K, h2, r, h3⟩ := g hl
      refine .inr ⟨b, 0, c, K, Nat.zero_le _, h1, rfl, h2, ?_⟩
      have hfl := flat_len hs
      unfold sub
      rw [h3, Nat.ble_eq_true_of_le (by rw [List.length_append, hfl]; omega)]
      simp only [List.drop_zero, Option.some.injEq, ite_true]
      rw [List.take_append_of_le_length (by omega), List.take_of_length_le (by omega)]
    · cases hl
end Go.Proofs.YtadenjdkknakgaaE

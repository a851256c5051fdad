/- The engine, part 25: arguments of plain types of several cells, and rows of these. -/
import Derived.Test.YtamfoplfbidolaaGreatDoorE24
import Derived.ChangeArms
namespace Go.Proofs.YtamfoplfbidolaaGreatDoorE
open Go Go.RowKit
set_option linter.unusedVariables false
set_option linter.unusedSimpArgs false

/-- What a cell of a plain type is. -/
inductive Leaf where
  | b
  | i (k : IntKind)
  | s
def LeafV : Leaf → AV → Prop
  | .b, x => ∃ b, x = .bool b
  | .i k, x => ∃ n, x = .int k n ∧ (Lit.int k n).wf = true
  | .s, x => ∃ s : ByteArray, x = .str s ∧ s.size ≤ maxLen
def LeavesV : List Leaf → List AV → Prop
  | [], xs => xs = []
  | k :: ks, xs => ∃ x ys, xs = x :: ys ∧ LeafV k x ∧ LeavesV ks ys
theorem LeavesV.length : ∀ {ks : List Leaf} {xs : List AV}, LeavesV ks xs → xs.length = ks.length
  | [], _, h => by simp only [LeavesV] at h; subst h; rfl
  | k :: ks, _, h => by
    simp only [LeavesV] at h
    obtain ⟨x, ys, rfl, _, h⟩ := h
    simp [LeavesV.length h]
theorem LeavesV.append : ∀ {ks ks' : List Leaf} {xs ys : List AV}, LeavesV ks xs → LeavesV ks' ys → LeavesV (ks ++ ks') (xs ++ ys)
  | [], ks', _, ys, h, h' => by simp only [LeavesV] at h; subst h; exact h'
  | k :: ks, ks', _, ys, h, h' => by
    simp only [LeavesV] at h
    obtain ⟨x, xs, rfl, hx, h⟩ := h
    simp only [List.cons_append, LeavesV]
    exact ⟨x, xs ++ ys, rfl, hx, h.append h'⟩
theorem ofVals_append : ∀ {vs us : List Value} {xs ys : List AV}, ofVals vs = some xs → ofVals us = some ys → ofVals (vs ++ us) = some (xs ++ ys)
  | [], us, xs, ys, h, h' => by cases h; exact h'
  | v :: vs, us, xs, ys, h, h' => by
    simp only [ofVals] at h
    split at h
    · rename_i x xs' h1 h2
      cases h
      simp only [List.cons_append, ofVals, h1, ofVals_append h2 h']
    · cases h
theorem ofVals_length : ∀ {vs : List Value} {xs : List AV}, ofVals vs = some xs → xs.length = vs.length
  | [], xs, h => by cases h; rfl
  | v :: vs, xs, h => by
    simp only [ofVals] at h
    split at h
    · rename_i x xs' h1 h2
      cases h
      simp [ofVals_length h2]
    · cases h

def leavesP (P : Program) (r : TypeId → Option (List Leaf)) : List (Nat × TypeId) → Nat → Option (List Leaf)
  | [], _ => some []
  | (o, t) :: ps, n => match r t with
    | none => none
    | some ks => match Nat.beq o n && Nat.beq (P.cellsOf t) ks.length with
      | false => none
      | true => (leavesP P r ps (n + ks.length)).map (ks ++ ·)
/-- The cells of a plain type. -/
def leaves (P : Program) : Nat → TypeId → Option (List Leaf)
  | 0, _ => none
  | n + 1, t => match P.underlying t with
    | some .bool => some [.b]
    | some (.int k) => some [.i k]
    | some .string => some [.s]
    | some (.struct fs) => match leavesP P (leaves P n) (fs.toList.map fun f => (f.offset, f.type)) 0 with
      | some ks => match Nat.beq (P.cellsOf t) ks.length with
        | true => some ks
        | false => none
      | none => none
    | some (.array m e) => match leavesP P (leaves P n) ((List.range m).map fun i => (i * P.cellsOf e, e)) 0 with
      | some ks => match Nat.beq (P.cellsOf t) ks.length with
        | true => some ks
        | false => none
      | none => none
    | _ => none

section
variable {H : Type} {enc : TypeId × Value → H} {P : Program} {w : World} {base : Nat} {sp : Nat → Bool} {held : Bool}

/-- It reads as a plain one. -/
def Plain (ks : List Leaf) (cs : List Value) : Prop := ∃ xs, ofVals cs = some xs ∧ LeavesV ks xs

theorem plainP {r : TypeId → Option (List Leaf)} {cs : List Value} : ∀ (ps : List (Nat × TypeId)) (n : Nat) {ks : List Leaf}, leavesP P r ps n = some ks →
    (∀ p ∈ ps, ∀ ks, r p.2 = some ks → Plain ks ((cs.drop p.1).take (P.cellsOf p.2))) → Plain ks ((cs.drop n).take ks.length)
  | [], n, ks, h, _ => by
    cases h
    exact ⟨[], by simp [ofVals], rfl⟩
  | (o, t) :: ps, n, ks, h, hp => by
    unfold leavesP at h
    cases hr : r t with
    | none => rw [hr] at h; cases h
    | some k1 =>
      rw [hr] at h
      simp only at h
      cases hb : Nat.beq o n && Nat.beq (P.cellsOf t) k1.length with
      | false => rw [hb] at h; cases h
      | true =>
        rw [hb] at h
        simp only [Option.map_eq_some_iff] at h
        obtain ⟨k2, h2, rfl⟩ := h
        rw [Bool.and_eq_true] at hb
        obtain rfl := Nat.eq_of_beq_eq_true hb.1
        have hc := Nat.eq_of_beq_eq_true hb.2
        obtain ⟨x1, e1, l1⟩ := hp (o, t) (by simp) k1 hr
        simp only [hc] at e1
        obtain ⟨x2, e2, l2⟩ := plainP ps (o + k1.length) h2 (fun p hp' => hp p (by simp [hp']))
        refine ⟨x1 ++ x2, ?_, l1.append l2⟩
        have := ofVals_append e1 e2
        rw [← this]
        congr 1
        rw [List.length_append, List.take_add, List.drop_drop]

theorem trod_array {t e : TypeId} {m fuel : Nat} {cs : List Value} {x : DataW H × List MemPlace} (ht : P.underlying t = some (.array m e)) (h : DataW.trod enc P w base sp held fuel t cs = some x) :
    ∃ n, cs.length = P.cellsOf t ∧ ∀ i, i < m → ∃ y, DataW.trod enc P w base sp held n e ((cs.drop (i * P.cellsOf e)).take (P.cellsOf e)) = some y := by
  cases fuel with
  | zero => simp [DataW.trod] at h
  | succ n =>
    rw [DataW.trod_step] at h
    unfold DataW.trodStep at h
    simp only [ht] at h
    split at h
    · rename_i hl
      simp only [Option.map_eq_some_iff] at h
      obtain ⟨ys, hy, _⟩ := h
      refine ⟨n, hl, fun i hi => ?_⟩
      have h1 := mapM_some_get hy i i (by simp [hi])
      have h2 := mapM_some_length hy
      rw [List.length_range] at h2
      exact ⟨ys[i]'(by omega), by rw [h1, List.getElem?_eq_getElem]⟩
    · cases h

theorem plain_of_trod : ∀ (d : Nat) {t : TypeId} {ks : List Leaf}, leaves P d t = some ks → ∀ {fuel : Nat} {cs : List Value} {x : DataW H × List MemPlace}, DataW.trod enc P w base sp held fuel t cs = some x → Plain ks cs
  | 0, t, ks, h, _, _, _, _ => by cases h
  | d + 1, t, ks, h, fuel, cs, x, hx => by
    unfold leaves at h
    split at h
    · rename_i hu
      cases h
      obtain ⟨b, rfl, _⟩ := DataW.trod_bool hu hx
      exact ⟨[.bool b], rfl, ⟨_, _, rfl, ⟨b, rfl⟩, rfl⟩⟩
    · rename_i k hu
      cases h
      obtain ⟨n, rfl, _, hw⟩ := DataW.trod_int hu hx
      exact ⟨[.int k n], rfl, ⟨_, _, rfl, ⟨n, rfl, hw⟩, rfl⟩⟩
    · rename_i hu
      cases h
      obtain ⟨s, rfl, _, hw⟩ := DataW.trod_string hu hx
      exact ⟨[.str s], rfl, ⟨_, _, rfl, ⟨s, rfl, hw⟩, rfl⟩⟩
    · rename_i fs hu
      split at h
      · rename_i ks' hk
        split at h
        · rename_i hb
          cases h
          obtain ⟨xs, n, _, _, hl, hxl, hf⟩ := DataW.trod_struct hu hx
          have hc := Nat.eq_of_beq_eq_true hb
          have := plainP (P := P) (cs := cs) _ 0 hk (fun p hp ks1 hr => by
            obtain ⟨f, hf', rfl⟩ := List.mem_map.1 hp
            obtain ⟨i, hi⟩ := List.getElem?_of_mem hf'
            have hi' : fs[i]? = some f := by rw [← hi]; simp
            have hii : i < fs.size := (Array.getElem?_eq_some_iff.1 hi').1
            have g := hf i f hi'
            rw [List.getElem?_eq_getElem (by omega)] at g
            exact plain_of_trod d hr g)
          rw [List.drop_zero, List.take_of_length_le (by omega)] at this
          exact this
        · cases h
      · cases h
    · rename_i m e hu
      split at h
      · rename_i ks' hk
        split at h
        · rename_i hb
          cases h
          obtain ⟨n, hl, hf⟩ := trod_array hu hx
          have hc := Nat.eq_of_beq_eq_true hb
          have := plainP (P := P) (cs := cs) _ 0 hk (fun p hp ks1 hr => by
            obtain ⟨i, hi, rfl⟩ := List.mem_map.1 hp
            obtain ⟨y, hy⟩ := hf i (List.mem_range.1 hi)
            exact plain_of_trod d hr hy)
          rw [List.drop_zero, List.take_of_length_le (by omega)] at this
          exact this
        · cases h
      · cases h
    · cases h

/-- A row of plain elements, as it comes in. -/
def IsRows (ks : List Leaf) (w : World) (a : Option Addr) (len cap : Nat) (zs : List (List AV)) : Prop :=
  (a = none ∧ len = 0 ∧ cap = 0 ∧ zs = []) ∨
  ∃ x, a = some x ∧ len ≤ cap ∧ cap ≤ maxLen ∧ zs.length = cap ∧ (∀ z ∈ zs, LeavesV ks z) ∧ ∃ vs, ofVals vs = some zs.flatten ∧ ∀ i v, vs[i]? = some v → w.cell? (x.add i) = some v

theorem add_add (a : Addr) (i j : Nat) : (a.add i).add j = a.add (i + j) := by
  by_cases hi : i = 0 <;> by_cases hj : j = 0 <;> simp [Addr.add, hi, hj, Nat.add_assoc]

theorem rows_up {ks : List Leaf} {a : Addr} {c cap : Nat} {g : Nat → List Value → Prop}
    (hel : ∀ i, i < cap → ∃ cs, w.cells? base (a.add (i * c)) c = some cs ∧ Plain ks cs) : ∀ n, n ≤ cap →
    ∃ (vs : List Value) (zs : List (List AV)), vs.length = n * c ∧ zs.length = n ∧ (∀ z ∈ zs, LeavesV ks z) ∧ ofVals vs = some zs.flatten ∧ ∀ i v, vs[i]? = some v → w.cell? (a.add i) = some v
  | 0, _ => ⟨[], [], by simp, rfl, (fun _ h => nomatch h), rfl, (fun i v h => by simp at h)⟩
  | n + 1, hn => by
    obtain ⟨vs, zs, h1, h2, h3, h4, h5⟩ := rows_up (g := g) hel n (by omega)
    obtain ⟨cs, hc, xs, hx, hl⟩ := hel n (by omega)
    obtain ⟨_, hcl, hcc⟩ := World.cells?_some hc
    refine ⟨vs ++ cs, zs ++ [xs], by rw [List.length_append, h1, hcl, Nat.succ_mul], by simp [h2], ?_, by rw [List.flatten_append]; simpa using ofVals_append h4 hx, ?_⟩
    · intro z hz
      rcases List.mem_append.1 hz with hz | hz
      · exact h3 z hz
      · rw [List.mem_singleton.1 hz]; exact hl
    · intro i v hv
      by_cases hi : i < vs.length
      · rw [List.getElem?_append_left hi] at hv
        exact h5 i v hv
      · rw [List.getElem?_append_right (by omega)] at hv
        have hi2 : i - vs.length < cs.length := (List.getElem?_eq_some_iff.1 hv).1
        have := hcc (i - vs.length) (by omega)
        rw [hv, add_add, h1] at this
        rw [← this]
        congr 2
        omega

theorem rows_of_trod {d : Nat} {t e : TypeId} {ks : List Leaf} {fuel : Nat} {a : Option Addr} {len cap : Nat} {x : DataW H × List MemPlace} (ht : P.underlying t = some (.slice e)) (he : leaves P d e = some ks)
    (h : DataW.trod enc P w base (fun _ => true) held fuel t [.slice a len cap] = some x) : ∃ zs, IsRows ks w a len cap zs := by
  rcases DataW.trod_slice ht h with ⟨h0, _⟩ | ⟨x, l, c, elems, rest, n, _, h0, _, hb, hl, hm, hlen, hel, hsp, _⟩
  · simp only [List.cons.injEq, Value.slice.injEq, and_true] at h0
    obtain ⟨rfl, rfl, rfl⟩ := h0
    exact ⟨[], .inl ⟨rfl, rfl, rfl, rfl⟩⟩
  · simp only [List.cons.injEq, Value.slice.injEq, and_true] at h0
    obtain ⟨rfl, rfl, rfl⟩ := h0
    obtain ⟨hr, hre⟩ := hsp rfl
    have each : ∀ i, i < cap → ∃ cs, w.cells? base (x.add (i * P.cellsOf e)) (P.cellsOf e) = some cs ∧ Plain ks cs := by
      intro i hi
      by_cases hc : i < len
      · have g := hel i hc
        rw [List.getElem?_eq_getElem (by omega), Option.bind_eq_some_iff] at g
        obtain ⟨cs, g1, g2⟩ := g
        exact ⟨cs, g1, plain_of_trod d he g2⟩
      · have g := hre (i - len) (by omega)
        rw [show len + (i - len) = i by omega, List.getElem?_eq_getElem (by omega), Option.bind_eq_some_iff] at g
        obtain ⟨cs, g1, g2⟩ := g
        exact ⟨cs, g1, plain_of_trod d he g2⟩
    obtain ⟨vs, zs, h1, h2, h3, h4, h5⟩ := rows_up (g := fun _ _ => True) each cap (Nat.le_refl _)
    exact ⟨zs, .inr ⟨x, rfl, hl, hm, h2, h3, vs, h4, h5⟩⟩
end

theorem LeavesV.flatten {ks : List Leaf} : ∀ {zs : List (List AV)}, (∀ z ∈ zs, LeavesV ks z) → zs.flatten.length = zs.length * ks.length
  | [], _ => by simp
  | z :: zs, h => by
    rw [List.flatten_cons, List.length_append, (h z (by simp)).length, LeavesV.flatten (fun z hz => h z (by simp [hz])), List.length_cons, Nat.succ_mul]
    omega

theorem VRs.of_vals (m : Mp) {vs : List Value} {xs : List AV} (h : ofVals vs = some xs) : VRs m xs vs := ofVals_sound m h

theorem IsRows.ok {ks : List Leaf} (hk : 0 < ks.length) {w : World} {x : Addr} {len cap : Nat} {zs : List (List AV)} (h1 : len ≤ cap) (h3 : zs.length = cap) (h4 : ∀ z ∈ zs, LeavesV ks z) (h5 : ∃ vs, ofVals vs = some zs.flatten ∧ ∀ i v, vs[i]? = some v → w.cell? (x.add i) = some v) :
    (Arg.row x len cap ks.length zs.flatten).ok w := by
  obtain ⟨vs, h5, h6⟩ := h5
  exact ⟨h1, hk, by rw [LeavesV.flatten h4, h3], vs, fun m => VRs.of_vals m h5, h6⟩

/-- A row of elements of several cells that is read. -/
def SRow (sz : Nat) (v : AV) (h : Mem) (nx : Nat) (l : List (List AV)) : Prop :=
  (v = .nils ∧ l = []) ∨ ∃ b c, v = .slc b 0 l.length c ∧ (∀ x ∈ l, x.length = sz) ∧ (l ≠ [] → b < nx ∧ ∃ K, h.blk b = some K ∧ ∃ r, K.cells = l.flatten ++ r)
theorem SRow.keep {sz : Nat} {v : AV} {h h' : Mem} {nx nx' : Nat} {l : List (List AV)} (r : SRow sz v h nx l) (hn : nx ≤ nx') (e : ∀ b, b < nx → h'.blk b = h.blk b) : SRow sz v h' nx' l := by
  rcases r with ⟨rfl, rfl⟩ | ⟨b, c, rfl, hs, g⟩
  · exact .inl ⟨rfl, rfl⟩
  · refine .inr ⟨b, c, rfl, hs, fun hl => ?_⟩
    obtain ⟨h1, K, h2, h3⟩ := g hl
    exact ⟨by omega, K, by rw [e b h1]; exact h2, h3⟩
theorem SRow.lenOp {sz : Nat} {v : AV} {h : Mem} {nx : Nat} {l : List (List AV)} (r : SRow sz v h nx l) : lenOp v = A.ret (.int .i64 l.length) := by
  rcases r with ⟨rfl, rfl⟩ | ⟨b, c, rfl, _⟩ <;> rfl

theorem flat_len {sz : Nat} : ∀ {l : List (List AV)}, (∀ x ∈ l, x.length = sz) → l.flatten.length = l.length * sz
  | [], _ => by simp
  | z :: zs, h => by
    rw [List.flatten_cons, List.length_append, h z (by simp), flat_len (fun z hz => h z (by simp [hz])), List.length_cons, Nat.succ_mul]
    omega
theorem flat_at {sz : Nat} : ∀ {l : List (List AV)} {r : List AV}, (∀ x ∈ l, x.length = sz) → ∀ {i : Nat} (hi : i < l.length), ((l.flatten ++ r).drop (i * sz)).take sz = l[i]
  | [], _, _, i, hi => absurd hi (Nat.not_lt_zero _)
  | z :: zs, r, h, 0, hi => by
    rw [Nat.zero_mul, List.drop_zero, List.flatten_cons, List.append_assoc, List.take_append_of_le_length (by rw [h z (by simp)]; exact Nat.le_refl _), List.take_of_length_le (by rw [h z (by simp)]; exact Nat.le_refl _)]
    rfl
  | z :: zs, r, h, i + 1, hi => by
    have hz := h z (by simp)
    rw [List.flatten_cons, List.append_assoc, Nat.succ_mul, Nat.add_comm, ← hz, ← List.drop_drop, List.drop_left]
    have := flat_at (l := zs) (r := r) (fun x hx => h x (by simp [hx])) (i := i) (by simpa using hi)
    rw [hz, this]
    rfl

/-- An element is read, whole, and cell by cell. -/
theorem SRow.at {sz : Nat} {v : AV} {h : Mem} {nx : Nat} {l : List (List AV)} (r : SRow sz v h nx l) {i : Nat} (hi : i < l.length) :
    ∃ b c K, v = .slc b 0 l.length c ∧ b < nx ∧ h.blk b = some K ∧ sub K.cells (i * sz) sz = some l[i] ∧ (∀ j x, l[i][j]? = some x → K.cells[i * sz + j]? = some x) := by
  rcases r with ⟨rfl, rfl⟩ | ⟨b, c, rfl, hs, g⟩
  · exact absurd hi (Nat.not_lt_zero _)
  · obtain ⟨h1, K, h2, r, h3⟩ := g (by intro e; subst e; exact absurd hi (Nat.not_lt_zero _))
    have hf := flat_at (r := r) hs hi
    have hl := flat_len hs
    have hle : i * sz + sz ≤ l.length * sz := by rw [← Nat.succ_mul]; exact Nat.mul_le_mul_right _ hi
    refine ⟨b, c, K, rfl, h1, h2, ?_, fun j x hj => ?_⟩
    · unfold sub
      rw [h3, List.length_append, Nat.ble_eq_true_of_le (by omega)]
      simp only [hf]
    · have hjl : j < sz := by
        have := (List.getElem?_eq_some_iff.1 hj).1
        rw [hs _ (List.getElem_mem hi)] at this
        exact this
      rw [← hf, List.getElem?_take_of_lt hjl, List.getElem?_drop] at hj
      rw [h3]
      exact hj

/-- The memory with a row laid. -/
def rowMemK (cap : Nat) (h : Mem) (n : Nat) (K : Option Blk) : Mem := match cap with
  | 0 => h
  | _ + 1 => h.set n K
theorem row_srow {ks : List Leaf} {len cap n nx : Nat} {zs : List (List AV)} (h1 : len ≤ cap) (h3 : zs.length = cap) (h4 : ∀ z ∈ zs, LeavesV ks z) (h : Mem) (hn : n < nx) :
    SRow ks.length (.slc n 0 len (some cap)) (rowMemK cap h n (some ⟨0, ks.length, false, false, zs.flatten⟩)) nx (zs.take len) := by
  have hl : (zs.take len).length = len := by rw [List.length_take]; omega
  refine .inr ⟨n, some cap, by rw [hl], fun x hx => (h4 x (List.mem_of_mem_take hx)).length, fun hne => ⟨hn, ⟨0, ks.length, false, false, zs.flatten⟩, ?_, (zs.drop len).flatten, ?_⟩⟩
  · cases cap with
    | zero =>
      exfalso
      apply hne
      have : len = 0 := by omega
      subst this
      rfl
    | succ c => exact Mem.blk_set_same ..
  · rw [← List.flatten_append, List.take_append_drop]

/-- A row of elements of sz cells that the call itself has made by append. -/
def SGRow (sz : Nat) (s : AV) (h : Mem) (lo nx : Nat) (l : List (List AV)) : Prop :=
  (s = .nils ∧ l = []) ∨ (∀ x ∈ l, x.length = sz) ∧ ∃ b ty, lo ≤ b ∧ b < nx ∧ s = .slc b 0 l.length none ∧ h.blk b = some ⟨ty, sz, true, true, l.flatten⟩
theorem SGRow.nil (sz : Nat) (h : Mem) (lo nx : Nat) : SGRow sz .nils h lo nx [] := .inl ⟨rfl, rfl⟩
theorem SGRow.keep {sz : Nat} {s : AV} {h h' : Mem} {lo nx nx' : Nat} {l : List (List AV)} (g : SGRow sz s h lo nx l) (hn : nx ≤ nx') (e : ∀ b, lo ≤ b → b < nx → h'.blk b = h.blk b) : SGRow sz s h' lo nx' l := by
  rcases g with g | ⟨hs, b, ty, h1, h2, h3, h4⟩
  · exact .inl g
  · exact .inr ⟨hs, b, ty, h1, by omega, h3, by rw [e b h1 h2]; exact h4⟩
theorem SGRow.new {sz : Nat} {s : AV} {h : Mem} {lo nx : Nat} {l : List (List AV)} (g : SGRow sz s h lo nx l) (k : Option Blk) : SGRow sz s (h.set nx k) lo (nx + 1) l :=
  g.keep (Nat.le_succ _) fun b _ hb => Mem.blk_set_ne _ _ _ _ (by omega)
theorem SGRow.srow {sz : Nat} {s : AV} {h : Mem} {lo nx : Nat} {l : List (List AV)} (g : SGRow sz s h lo nx l) : SRow sz s h nx l := by
  rcases g with g | ⟨hs, b, ty, h1, h2, h3, h4⟩
  · exact .inl g
  · exact .inr ⟨b, none, h3, hs, fun _ => ⟨h2, _, h4, [], by simp⟩⟩
/-- One element more. -/
theorem app_el {sz : Nat} (hsz : 0 < sz) {s : AV} {h : Mem} {lo nx lg : Nat} {l : List (List AV)} (ty bytes : Nat) (x : List AV) (g : SGRow sz s h lo nx l) (hlg : lg ≤ lo) (hlo : lo ≤ nx) (hf : fits (l.length + 1) bytes = true) (hx : x.all AV.one = true) (hxl : x.length = sz) :
    Post (appA ty sz bytes 1 s x h nx lg) fun s' h' nx' tc wr => nx' = nx + 1 ∧ SGRow sz s' h' lo (nx + 1) (l ++ [x]) ∧ (∀ b, b < lo → b < nx → h'.blk b = h.blk b) ∧ tc = 0 ∧ wr = 0 := by
  rcases g with ⟨rfl, rfl⟩ | ⟨hs, b, t, h1, h2, rfl, h4⟩
  · have e : appA ty sz bytes 1 .nils x h nx lg = some ⟨.slc nx 0 1 none, h.set nx (some ⟨ty, sz, true, true, x⟩), nx + 1, 0, 0⟩ := by
      have hf' : fits 1 bytes = true := hf
      unfold appA
      simp [hf', A.bind, newBlk, A.ret, Nat.beq]
    exact Post.of e ⟨rfl, .inr ⟨by simpa using hxl, nx, ty, hlo, by omega, rfl, by simpa using Mem.blk_set_same ..⟩, fun b hb hb2 => Mem.blk_set_ne _ _ _ _ (by omega), rfl, rfl⟩
  · have hb1 : Nat.blt b nx = true := blt_of h2
    have hbit : bit lg b = 0 := by
      unfold bit
      cases hc : Nat.blt b lg with
      | false => rfl
      | true => have := Nat.le_of_ble_eq_true hc; omega
    have hfl := flat_len hs
    have hble : Nat.ble (0 + (l.length + 1) * sz) l.flatten.length = false := by
      cases hc : Nat.ble (0 + (l.length + 1) * sz) l.flatten.length with
      | false => rfl
      | true => have := Nat.le_of_ble_eq_true hc; rw [hfl, Nat.succ_mul] at this; omega
    have e : appA ty sz bytes 1 (.slc b 0 l.length none) x h nx lg = some ⟨.slc nx 0 (l.length + 1) none, (h.set b none).set nx (some ⟨t, sz, true, true, l.flatten ++ x⟩), nx + 1, 0, 0⟩ := by
      have hsub := sub_all l.flatten (l.length * sz) (by omega)
      have hn1 : Nat.beq 1 0 = false := rfl
      unfold appA
      simp only [hn1, A.bind, rdBlk, hb1, h4, Nat.beq_refl, Bool.true_and, hx, hble, hf, hsub, A.ofOpt, A.ret, movBlk, hbit]
      rfl
    refine Post.of e ⟨rfl, .inr ⟨?_, nx, t, by omega, by omega, by rw [List.length_append]; rfl, ?_⟩, fun c hc hc2 => by rw [Mem.blk_set_ne _ _ _ _ (by omega), Mem.blk_set_ne _ _ _ _ (by omega)], rfl, rfl⟩
    · intro y hy
      rcases List.mem_append.1 hy with hy | hy
      · exact hs y hy
      · rw [List.mem_singleton.1 hy]; exact hxl
    · rw [Mem.blk_set_same]; simp

theorem blt_dec (a b : Nat) : Nat.blt a b = decide (a < b) := by
  by_cases h : a < b
  · rw [blt_of h, decide_eq_true h]
  · rw [decide_eq_false h]
    cases hc : Nat.blt a b with
    | false => rfl
    | true => exact absurd (Nat.le_of_ble_eq_true hc) h
/-- The blocks below stay. -/
def Keeps (nx : Nat) (h h' : Mem) : Prop := ∀ b, b < nx → h'.blk b = h.blk b
theorem keeps_refl (nx : Nat) (h : Mem) : Keeps nx h h = True := eq_true fun b _ => rfl
theorem keeps_at (nx : Nat) (h h' : Mem) (K : Option Blk) : Keeps nx h (h'.set nx K) = Keeps nx h h' := by
  unfold Keeps
  refine propext ⟨fun g b hb => ?_, fun g b hb => ?_⟩
  · rw [← g b hb, Mem.blk_set_ne _ _ _ _ (by omega)]
  · rw [← g b hb, Mem.blk_set_ne _ _ _ _ (by omega)]
theorem keeps_up (nx k : Nat) (h h' : Mem) (K : Option Blk) : Keeps nx h (h'.set (nx + k) K) = Keeps nx h h' := by
  unfold Keeps
  refine propext ⟨fun g b hb => ?_, fun g b hb => ?_⟩
  · rw [← g b hb, Mem.blk_set_ne _ _ _ _ (by omega)]
  · rw [← g b hb, Mem.blk_set_ne _ _ _ _ (by omega)]
theorem Keeps.trans {nx nx' : Nat} {h h' h'' : Mem} (a : Keeps nx h h') (b : Keeps nx' h' h'') (e : nx ≤ nx') : Keeps nx h h'' := fun i hi => by rw [b i (by omega), a i hi]
theorem Keeps.set {nx p : Nat} {h h' : Mem} (a : Keeps nx h h') (K : Option Blk) (e : nx ≤ p) : Keeps nx h (h'.set p K) := fun i hi => by rw [Mem.blk_set_ne _ _ _ _ (by omega), a i hi]
theorem IRow.stay {k : IntKind} {v : AV} {h h' : Mem} {nx nx' : Nat} {l : List Int} (r : IRow k v h nx l) (g : Keeps nx h h') (hn : nx ≤ nx') : IRow k v h' nx' l := r.keep hn g
theorem SRow.stay {sz : Nat} {v : AV} {h h' : Mem} {nx nx' : Nat} {l : List (List AV)} (r : SRow sz v h nx l) (g : Keeps nx h h') (hn : nx ≤ nx') : SRow sz v h' nx' l := r.keep hn g
/-- It answers so, whatever it does beside; what was there stays. -/
def Says (T : FuncId → Option AF) (n f : Nat) (args : List AV) (h : Mem) (nx : Nat) (a : AV) : Prop := ∀ lg, Post (xF T n f args h nx lg) fun v h' nx' _ _ => v = a ∧ nx ≤ nx' ∧ Keeps nx h h'
theorem Says.run {T : FuncId → Option AF} {n f : Nat} {args : List AV} {h : Mem} {nx : Nat} {a : AV} (s : Says T n f args h nx a) (m lg : Nat) (hm : n ≤ m) : ∃ h' nx' tc wr, xF T m f args h nx lg = some ⟨a, h', nx', tc, wr⟩ ∧ nx ≤ nx' ∧ Keeps nx h h' := by
  obtain ⟨v, h', nx', tc, wr, e, rfl, e2, e3⟩ := (s lg).inv
  exact ⟨h', nx', tc, wr, xF_mono T hm e, e2, e3⟩
/-- One run for all rounds that are enough. -/
theorem Says.at {T : FuncId → Option AF} {n f : Nat} {args : List AV} {h : Mem} {nx : Nat} {a : AV} (s : Says T n f args h nx a) (lg : Nat) : ∃ h' nx' tc wr, (∀ k, xF T (k + n) f args h nx lg = some ⟨a, h', nx', tc, wr⟩) ∧ nx ≤ nx' ∧ Keeps nx h h' := by
  obtain ⟨v, h', nx', tc, wr, e, rfl, e2, e3⟩ := (s lg).inv
  exact ⟨h', nx', tc, wr, fun k => xF_mono T (Nat.le_add_left ..) e, e2, e3⟩
theorem eA_b (a b : Bool) : eqA .b (.bool a) (.bool b) = some (a == b) := by simp [eqA, eqB]
theorem eA_i (k : IntKind) (a b : Int) : eqA .i (.int k a) (.int k b) = some (a == b) := by simp [eqA, eqI]
theorem eA_s (a b : ByteArray) : eqA .s (.str a) (.str b) = some (a == b) := by simp [eqA, eqS]
theorem eA_nn : eqA .p .null .null = some true := by simp [eqA, eqP]
theorem eA_np (b o : Nat) : eqA .p .null (.ptr b o) = some false := by simp [eqA, eqP]
theorem eA_pn (b o : Nat) : eqA .p (.ptr b o) .null = some false := by simp [eqA, eqP]
theorem eA_lnn : eqA .l .nils .nils = some true := by simp [eqA, eqL]
theorem eA_lnp (b o n : Nat) (c : Option Nat) : eqA .l .nils (.slc b o n c) = some false := by simp [eqA, eqL]
theorem eA_lpn (b o n : Nat) (c : Option Nat) : eqA .l (.slc b o n c) .nils = some false := by simp [eqA, eqL]
theorem eqFs_i {o n : Nat} {r : List (Nat × Nat × EqK)} {xs ys : List AV} {k : IntKind} {a b : Int} (hx : xs[o]? = some (.int k a)) (hy : ys[o]? = some (.int k b)) : eqFs ((o, n, .i) :: r) xs ys = if (a == b) = true then eqFs r xs ys else some false := by
  have e : eqA .i (.int k a) (.int k b) = some (a == b) := by simp [eqA, eqI]
  simp only [eqFs, partK, hx, hy, e]
  cases a == b <;> rfl
theorem eqFs_nil (xs ys : List AV) : eqFs [] xs ys = some true := by simp only [eqFs]
theorem eA_i2 (k k2 : IntKind) (a b a' b' : Int) : eqA (.st [(0, 1, .i), (1, 1, .i)]) (.agg [.int k a, .int k2 b]) (.agg [.int k a', .int k2 b']) = some (a == a' && b == b') := by
  have e : eqA (.st [(0, 1, .i), (1, 1, .i)]) (.agg [.int k a, .int k2 b]) (.agg [.int k a', .int k2 b']) = eqFs [(0, 1, .i), (1, 1, .i)] [.int k a, .int k2 b] [.int k a', .int k2 b'] := by simp only [eqA]
  rw [e, eqFs_i (k := k) (a := a) (b := a') rfl rfl, eqFs_i (k := k2) (a := b) (b := b') rfl rfl, eqFs_nil]
  cases a == a' <;> cases b == b' <;> rfl
theorem eA_i3 (k k2 k3 : IntKind) (a b c a' b' c' : Int) : eqA (.st [(0, 1, .i), (1, 1, .i), (2, 1, .i)]) (.agg [.int k a, .int k2 b, .int k3 c]) (.agg [.int k a', .int k2 b', .int k3 c']) = some (a == a' && b == b' && c == c') := by
  have e : eqA (.st [(0, 1, .i), (1, 1, .i), (2, 1, .i)]) (.agg [.int k a, .int k2 b, .int k3 c]) (.agg [.int k a', .int k2 b', .int k3 c']) = eqFs [(0, 1, .i), (1, 1, .i), (2, 1, .i)] [.int k a, .int k2 b, .int k3 c] [.int k a', .int k2 b', .int k3 c'] := by simp only [eqA]
  rw [e, eqFs_i (k := k) (a := a) (b := a') rfl rfl, eqFs_i (k := k2) (a := b) (b := b') rfl rfl, eqFs_i (k := k3) (a := c) (b := c') rfl rfl, eqFs_nil]
  cases a == a' <;> cases b == b' <;> cases c == c' <;> rfl
theorem yC_loop (T : FuncId → Option AF) (n : Nat) (c : AC) (ts : List AV) : xC T (n + 1) (.loop c) ts = A.bind (xC T n c ts) fun r => match r.1 with
    | .nor => xC T n (.loop c) r.2
    | _ => A.ret r := Eq.trans rfl rfl

end Go.Proofs.YtamfoplfbidolaaGreatDoorE

/- The engine, part 21: a law: its arguments are numbers, truths, texts, values of several cells, slices that are read. -/
import Derived.Test.YtamfoplfbidolaaGreatDoorE20
namespace Go.Proofs.YtamfoplfbidolaaGreatDoorE
open Go Go.RowKit
set_option linter.unusedVariables false
set_option linter.unusedSimpArgs false

inductive Arg where
  | bool (b : Bool)
  | int (k : IntKind) (n : Int)
  | str (s : ByteArray)
  /-- a struct or an array by value -/
  | agg (cs : List AV) (vs : List Value)
  /-- a slice: so many elements of so many cells each; its cells -/
  | nilrow
  | row (a : Addr) (len cap sz : Nat) (cs : List AV)

def Arg.val : Arg → Value
  | .bool b => .bool b
  | .int k n => .int k n
  | .str s => .string s
  | .agg _ vs => .agg vs.toArray
  | .nilrow => .slice none 0 0
  | .row a len cap _ _ => .slice (some a) len cap

/-- What is known of an argument. -/
def Arg.ok (w : World) : Arg → Prop
  | .agg cs vs => ∀ m, VRs m cs vs
  | .row a len cap sz cs => len ≤ cap ∧ 0 < sz ∧ cs.length = cap * sz ∧ ∃ vs, (∀ m, VRs m cs vs) ∧ ∀ i v, vs[i]? = some v → w.cell? (a.add i) = some v
  | _ => True

/-- The arguments in the engine: the slices are blocks n, n + 1, .. -/
def Arg.av : List Arg → Nat → List AV
  | [], _ => []
  | .bool b :: r, n => .bool b :: Arg.av r n
  | .int k i :: r, n => .int k i :: Arg.av r n
  | .str s :: r, n => .str s :: Arg.av r n
  | .agg cs _ :: r, n => .agg cs :: Arg.av r n
  | .nilrow :: r, n => .nils :: Arg.av r n
  | .row _ len cap _ _ :: r, n => .slc n 0 len (some cap) :: Arg.av r (n + 1)
def Arg.mem : List Arg → Nat → Mem → Mem
  | [], _, h => h
  | .row _ _ cap sz cs :: r, n, h => Arg.mem r (n + 1) (match cap with | 0 => h | _ + 1 => h.set n (some ⟨0, sz, false, false, cs⟩))
  | .bool _ :: r, n, h | .int _ _ :: r, n, h | .str _ :: r, n, h | .agg _ _ :: r, n, h | .nilrow :: r, n, h => Arg.mem r n h
def Arg.nx : List Arg → Nat → Nat
  | [], n => n
  | .row _ _ _ _ _ :: r, n => Arg.nx r (n + 1)
  | .bool _ :: r, n | .int _ _ :: r, n | .str _ :: r, n | .agg _ _ :: r, n | .nilrow :: r, n => Arg.nx r n

theorem HR.addRo {B : Nat} {m : Mp} {h : Mem} {w : World} (r : HR B m h w) (hro : ∀ b k, h.blk b = some k → k.own = false) (n : Nat) (k : Blk) (l : Loc) (hn : m n = none) (hk : k.own = false) (hh : Held (m.up n l) B w k l) : HR B (m.up n l) (h.set n (some k)) w := by
  have hup : ∀ b, b ≠ n → (m.up n l) b = m b := fun b hb => by unfold Mp.up; rw [if_neg hb]
  have hupn : (m.up n l) n = some l := by unfold Mp.up; rw [if_pos rfl]
  refine ⟨r.base, fun b k' hb => ?_, fun b b' k1 k2 l1 l2 hne hb ho hb' hl1 hl2 => ?_⟩
  · by_cases e : b = n
    · subst e; rw [Mem.blk_set_same] at hb; cases hb; exact ⟨l, hupn, hh⟩
    · rw [Mem.blk_set_ne _ _ _ _ e] at hb
      obtain ⟨l', hl', hh'⟩ := r.held b k' hb
      exact ⟨l', by rw [hup b e]; exact hl', hh'.mono (Mp.le_up m n l (.inl hn))⟩
  · exfalso
    by_cases e : b = n
    · subst e; rw [Mem.blk_set_same] at hb; cases hb; rw [hk] at ho; cases ho
    · rw [Mem.blk_set_ne _ _ _ _ e] at hb
      rw [hro b k1 hb] at ho; cases ho

theorem Arg.laid {w : World} {B : Nat} : ∀ (as : List Arg) (n : Nat) (h : Mem) (m : Mp), (∀ a ∈ as, a.ok w) → HR B m h w → (∀ b k, h.blk b = some k → k.own = false) → (∀ b, n ≤ b → m b = none) →
    ∃ m', m.le m' ∧ HR B m' (Arg.mem as n h) w ∧ VRs m' (Arg.av as n) (as.map Arg.val) ∧ (∀ b, Arg.nx as n ≤ b → m' b = none)
  | [], n, h, m, hok, hr, hro, hm => ⟨m, Mp.le_refl m, hr, VRs.nil, hm⟩
  | .bool b :: as, n, h, m, hok, hr, hro, hm => by
    obtain ⟨m', g1, g2, g3, g4⟩ := Arg.laid as n h m (fun a ha => hok a (by simp [ha])) hr hro hm
    exact ⟨m', g1, g2, VRs.cons_iff.2 ⟨VR.bool b, g3⟩, g4⟩
  | .int k i :: as, n, h, m, hok, hr, hro, hm => by
    obtain ⟨m', g1, g2, g3, g4⟩ := Arg.laid as n h m (fun a ha => hok a (by simp [ha])) hr hro hm
    exact ⟨m', g1, g2, VRs.cons_iff.2 ⟨VR.int k i, g3⟩, g4⟩
  | .str s :: as, n, h, m, hok, hr, hro, hm => by
    obtain ⟨m', g1, g2, g3, g4⟩ := Arg.laid as n h m (fun a ha => hok a (by simp [ha])) hr hro hm
    exact ⟨m', g1, g2, VRs.cons_iff.2 ⟨VR.str s, g3⟩, g4⟩
  | .agg cs vs :: as, n, h, m, hok, hr, hro, hm => by
    obtain ⟨m', g1, g2, g3, g4⟩ := Arg.laid as n h m (fun a ha => hok a (by simp [ha])) hr hro hm
    have := hok (.agg cs vs) (by simp)
    exact ⟨m', g1, g2, VRs.cons_iff.2 ⟨by simp only [VR]; exact ⟨vs, rfl, this m'⟩, g3⟩, g4⟩
  | .nilrow :: as, n, h, m, hok, hr, hro, hm => by
    obtain ⟨m', g1, g2, g3, g4⟩ := Arg.laid as n h m (fun a ha => hok a (by simp [ha])) hr hro hm
    exact ⟨m', g1, g2, VRs.cons_iff.2 ⟨by simp only [VR]; rfl, g3⟩, g4⟩
  | .row a len cap sz cs :: as, n, h, m, hok, hr, hro, hm => by
    obtain ⟨hle, hsz, hlen, vs, hv, hc⟩ := hok (.row a len cap sz cs) (by simp)
    have hn : m n = none := hm n (Nat.le_refl n)
    have hvl := (hv m).length
    cases cap with
    | zero =>
      have hlen0 : len = 0 := by omega
      obtain ⟨m', g1, g2, g3, g4⟩ := Arg.laid as (n + 1) h (m.up n ⟨0, 0, 0, 0, false⟩) (fun a ha => hok a (by simp [ha]))
        ⟨hr.base, fun b k hb => by
          obtain ⟨l, hl, hh⟩ := hr.held b k hb
          exact ⟨l, Mp.le_up m n _ (.inl hn) b l hl, hh.mono (Mp.le_up m n _ (.inl hn))⟩, fun b b' k k' l l' hne hb ho hb' hl hl' => by rw [hro b k hb] at ho; cases ho⟩
        hro (fun b hb => by unfold Mp.up; rw [if_neg (by omega)]; exact hm b (by omega))
      refine ⟨m', Mp.le_trans (Mp.le_up m n _ (.inl hn)) g1, g2, VRs.cons_iff.2 ⟨?_, g3⟩, g4⟩
      simp only [VR]
      exact ⟨⟨0, 0, 0, 0, false⟩, a, 0, g1 n _ (up_at ..), rfl, rfl, hle, .inl rfl, rfl⟩
    | succ cap =>
      have hpos : 0 < vs.length := by rw [hvl, hlen]; exact Nat.mul_pos (Nat.succ_pos _) hsz
      have h0 := hc 0 _ (List.getElem?_eq_getElem hpos)
      have ha0 : a.add 0 = a := by unfold Addr.add; simp
      rw [ha0] at h0
      have hsp : a.spot = none := by
        cases hs : a.spot with
        | none => rfl
        | some q =>
          unfold World.cell? at h0
          split at h0
          · rw [hs] at h0; simp at h0
          · cases h0
      obtain ⟨ab, ao, asp⟩ := a
      simp only at hsp
      subst hsp
      obtain ⟨c, t, fz, hblk⟩ : ∃ c t fz, w.heap[ab]? = some (.cells c t fz) := by
        unfold World.cell? at h0
        split at h0
        · rename_i c t fz hb; exact ⟨c, t, fz, hb⟩
        · cases h0
      have hcell : ∀ i v, vs[i]? = some v → c[ao + i]? = some v := fun i v hi => by
        have := hc i v hi
        rw [add_lit, cell_at hblk] at this
        exact this
      have hsize : ao + vs.length ≤ c.size := by
        have := hcell (vs.length - 1) _ (List.getElem?_eq_getElem (by omega))
        have := (Array.getElem?_eq_some_iff.1 this).1
        omega
      have hr1 : HR B (m.up n ⟨ab, ao, vs.length, sz, false⟩) (h.set n (some ⟨0, sz, false, false, cs⟩)) w := by
        refine hr.addRo hro n _ _ hn rfl ⟨⟨c, t, fz, hblk, hsize, (fun h => nomatch h), vs, hv _, fun j hj => ?_⟩, (by simp only; omega), (fun h => nomatch h), (fun h => nomatch h)⟩
        rw [hcell j _ (List.getElem?_eq_getElem hj), List.getElem?_eq_getElem hj]
      obtain ⟨m', g1, g2, g3, g4⟩ := Arg.laid as (n + 1) (h.set n (some ⟨0, sz, false, false, cs⟩)) (m.up n ⟨ab, ao, vs.length, sz, false⟩) (fun a ha => hok a (by simp [ha])) hr1
        (fun b k hb => by
          rw [Mem.blk_set] at hb
          split at hb
          · cases hb; rfl
          · exact hro b k hb)
        (fun b hb => by unfold Mp.up; rw [if_neg (by omega)]; exact hm b (by omega))
      refine ⟨m', Mp.le_trans (Mp.le_up m n _ (.inl hn)) g1, g2, VRs.cons_iff.2 ⟨?_, g3⟩, g4⟩
      simp only [VR]
      exact ⟨_, _, _, g1 n _ (up_at ..), rfl, rfl, hle, .inr (by simp), rfl⟩

/-- A law that the engine runs to 'true'. -/
theorem law_calls {P : Program} {T : FuncId → Option AF} (hT : TableOk P T) (f : FuncId) (as : List Arg) (w : World) (hok : ∀ a ∈ as, a.ok w) {fuel : Nat} {h' : Mem} {n' tc wr : Nat}
    (e : xF T fuel f (Arg.av as 0) (Arg.mem as 0 Mem.empty) (Arg.nx as 0) 0 = some ⟨.bool true, h', n', tc, wr⟩) :
    Calls P f (as.map Arg.val).toArray w fun e w' => e = .returned (.bool true) ∧ Below w.heap.size w w' := by
  obtain ⟨m, g1, g2, g3, g4⟩ := Arg.laid (B := w.heap.size) as 0 Mem.empty (fun _ => none) hok ⟨Nat.le_refl _, (fun b k hb => by rw [Mem.blk_empty] at hb; cases hb), (fun b b' k k' l l' hne hb => by rw [Mem.blk_empty] at hb; cases hb)⟩
    (fun b k hb => by rw [Mem.blk_empty] at hb; cases hb) (fun b _ => rfl)
  refine (call_sound hT fuel f _ _ _ 0 _ _ m w.heap.size w (Nat.zero_le _) e g2 g3 (fun b h1 h2 => g4 b h1)).2.mono ?_
  rintro e' w' ⟨m', u, rfl, q1, q2, q3, q4, q5⟩
  rw [q3.bool_inv]
  exact ⟨rfl, q4⟩

end Go.Proofs.YtamfoplfbidolaaGreatDoorE

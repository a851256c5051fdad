/- Code: rows of numbers, of classes. -/
import Derived.Test.YtlbjdkhpabpmiaaT
import Derived.Test.YtlbjdkhpabpmiaaB
import Derived.Test.YtlbjdkhpabpmiaaE33
namespace Go.Proofs.YtlbjdkhpabpmiaaT
open Go Go.Proofs.YtlbjdkhpabpmiaaE Go.Proofs.YtlbjdkhpabpmiaaB
set_option linter.unusedSimpArgs false
set_option linter.unusedVariables false
attribute [local congr] Post_cg PostL_cg condP_cg

abbrev Rd (d f : Nat) (args : List AV) (h : Mem) (nx : Nat) (v : AV) : Prop := RdC T d f args h nx v
abbrev Nw (d f : Nat) (args : List AV) (h : Mem) (nx : Nat) (Q : AV → Mem → Nat → Prop) : Prop := NwC T d f args h nx Q
def i64s (l : List Int) : List (List AV) := l.map fun x => [.int .i64 x]
theorem i64s_len (l : List Int) : (i64s l).length = l.length := by unfold i64s; rw [List.length_map]
theorem i64s_app (l : List Int) (x : Int) : i64s (l ++ [x]) = i64s l ++ [[.int .i64 x]] := by unfold i64s; rw [List.map_append]; rfl
theorem i64s_at {l : List Int} {i : Nat} (h : i < (i64s l).length) : (i64s l)[i] = [.int .i64 (l[i]'(by rw [i64s_len] at h; exact h))] := List.getElem_map (h := h) ..
/-- A bind; a class. -/
def bnds (l : List (Int × Int)) : List (List AV) := l.map fun x => [.int .i64 x.1, .int .i64 x.2]
theorem bnds_len (l : List (Int × Int)) : (bnds l).length = l.length := by unfold bnds; rw [List.length_map]
structure C where
  name : ByteArray
  sup : Int
  fld : Int
  bv : AV
  B : List (Int × Int)
def C.cs (c : C) : List AV := [.str c.name, .int .i64 c.sup, .int .i64 c.fld, c.bv]
def css (L : List C) : List (List AV) := L.map C.cs
theorem css_len (L : List C) : (css L).length = L.length := by unfold css; rw [List.length_map]
theorem css_at {L : List C} {i : Nat} (h : i < (css L).length) : (css L)[i] = (L[i]'(by rw [css_len] at h; exact h)).cs := List.getElem_map (h := h) ..
def big : Nat := 9223372036854775807
structure CR (v : AV) (h : Mem) (nx : Nat) (L : List C) : Prop where
  r : RD 4 v h nx (css L)
  n : L.length ≤ big
  b : ∀ c ∈ L, RD 2 c.bv h nx (bnds c.B) ∧ c.B.length ≤ big ∧ c.name.size ≤ big
theorem CR.keeps {v : AV} {h h' : Mem} {nx nx' : Nat} {L : List C} (g : CR v h nx L) (hn : nx ≤ nx') (e : ∀ b, b < nx → h'.blk b = h.blk b) : CR v h' nx' L :=
  ⟨g.r.keeps hn e, g.n, fun c hc => ⟨(g.b c hc).1.keeps hn e, (g.b c hc).2⟩⟩
theorem CR.lenOp {v : AV} {h : Mem} {nx : Nat} {L : List C} (g : CR v h nx L) : lenOp v = A.ret (.int .i64 L.length) := by rw [g.r.lenOp, css_len]
theorem CR.el {v : AV} {h : Mem} {nx : Nat} {L : List C} (g : CR v h nx L) {i : Nat} (hi : i < L.length) : ∃ b o, El v (i : Int) 4 h nx L[i].cs b o := by
  obtain ⟨b, o, e⟩ := g.r.el (i := i) (by rw [css_len]; exact hi)
  rw [css_at] at e
  exact ⟨b, o, e⟩

theorem wr_or {a b q : Nat} (h : a &&& 2 ^ q = 0) (g : b &&& 2 ^ q = 0) : (a ||| b) &&& 2 ^ q = 0 := by rw [Nat.and_or_distrib_right, h, g]; rfl
theorem take_more {α : Type} {l : List α} {j : Nat} (h : j < l.length) {P : α → Prop} (a : ∀ y ∈ l.take j, P y) (b : P l[j]) : ∀ y ∈ l.take (j + 1), P y := fun y hy => by
  rw [List.take_succ_eq_append_getElem h] at hy
  rcases List.mem_append.1 hy with hy | hy
  · exact a y hy
  · rw [List.mem_singleton.1 hy]; exact b
def bcs (x : Int × Int) : List AV := [.int .i64 x.1, .int .i64 x.2]
theorem bnds_at {L : List (Int × Int)} {i : Nat} (h : i < (bnds L).length) : (bnds L)[i] = bcs (L[i]'(by rw [bnds_len] at h; exact h)) := List.getElem_map (h := h) ..
structure BR (v : AV) (h : Mem) (nx : Nat) (L : List (Int × Int)) : Prop where
  r : RD 2 v h nx (bnds L)
  n : L.length ≤ big
theorem BR.keeps {v : AV} {h h' : Mem} {nx nx' : Nat} {L : List (Int × Int)} (g : BR v h nx L) (hn : nx ≤ nx') (e : ∀ b, b < nx → h'.blk b = h.blk b) : BR v h' nx' L := ⟨g.r.keeps hn e, g.n⟩
theorem BR.lenOp {v : AV} {h : Mem} {nx : Nat} {L : List (Int × Int)} (g : BR v h nx L) : lenOp v = A.ret (.int .i64 L.length) := by rw [g.r.lenOp, bnds_len]
theorem BR.el {v : AV} {h : Mem} {nx : Nat} {L : List (Int × Int)} (g : BR v h nx L) {i : Nat} (hi : i < L.length) : ∃ b o, El v (i : Int) 2 h nx (bcs L[i]) b o := by
  obtain ⟨b, o, e⟩ := g.r.el (i := i) (by rw [bnds_len]; exact hi)
  rw [bnds_at] at e
  exact ⟨b, o, e⟩
theorem CR.bind {v : AV} {h : Mem} {nx : Nat} {L : List C} (g : CR v h nx L) {c : C} (hc : c ∈ L) : BR c.bv h nx c.B := ⟨(g.b c hc).1, (g.b c hc).2.1⟩
/-- Is a bind's name there? -/
def anyS (L : List (Int × Int)) (c : Int × Int) : Bool := L.any fun y => y.1 == c.1
theorem anyS_t {L : List (Int × Int)} {c : Int × Int} {j : Nat} (h : j < L.length) (d : (L[j].1 == c.1) = true) : anyS L c = true := by unfold anyS; rw [List.any_eq_true]; exact ⟨_, List.getElem_mem h, d⟩
theorem anyS_f {L : List (Int × Int)} {c : Int × Int} (d : ∀ y ∈ L, (y.1 == c.1) = false) : anyS L c = false := by unfold anyS; rw [List.any_eq_false]; intro y hy; rw [d y hy]; decide
def okb (B : List (Int × Int)) (n m : Int) (j : Nat) : Bool := match B[j]? with
  | some x => decide (0 ≤ x.1) && decide (x.1 < n) && decide (0 ≤ x.2) && decide (x.2 < m) && !anyS (B.take j) x
  | none => true
def bindsV (B : List (Int × Int)) (n m : Int) : Bool := (List.range B.length).all (okb B n m) && decide (B.length ≤ 16)
theorem okb_at {B : List (Int × Int)} {n m : Int} {j : Nat} (h : j < B.length) : okb B n m j = (decide (0 ≤ B[j].1) && decide (B[j].1 < n) && decide (0 ≤ B[j].2) && decide (B[j].2 < m) && !anyS (B.take j) B[j]) := by
  unfold okb; rw [List.getElem?_eq_getElem h]
theorem bindsV_no {B : List (Int × Int)} {n m : Int} {j : Nat} (h : j < B.length) (e : okb B n m j = false) : bindsV B n m = false := by
  unfold bindsV
  have : (List.range B.length).all (okb B n m) = false := by
    rw [List.all_eq_false]
    exact ⟨j, List.mem_range.2 h, by rw [e]; decide⟩
  rw [this]; rfl
theorem bindsV_yes {B : List (Int × Int)} {n m : Int} (e : ∀ j, j < B.length → okb B n m j = true) : bindsV B n m = decide (B.length ≤ 16) := by
  unfold bindsV
  have : (List.range B.length).all (okb B n m) = true := by
    rw [List.all_eq_true]
    exact fun j hj => e j (List.mem_range.1 hj)
  rw [this]; rfl
end Go.Proofs.YtlbjdkhpabpmiaaT

/- The engine, part 10: what is appended, copied. -/
import Derived.Test.YtamfoplfbidolaaGreatDoorE9
namespace Go.Proofs.YtamfoplfbidolaaGreatDoorE
open Go Go.RowKit
set_option linter.unusedVariables false
set_option linter.unusedSimpArgs false

section
variable {P : Program} {B : Nat} {m : Mp} {h : Mem} {w : World} {ts : List AV} {a : Act} {n lg : Nat} {o : Oper} {call : FuncId → List AV → A AV}

theorem run_loadCells_zero (ad : Addr) (w : World) : (loadCells ad 0).run P w = .ok #[] w := rfl

/-- Cells that are read: in any world with this memory. -/
theorem rdEls_run (hr : HR B m h w) {sz k : Nat} {x : AV} {u : Value} {r : Rs (List AV)} (e : rdEls sz k x h n lg = some r) (hv : VR m x u) :
    ∃ vs : List Value, (∀ w', w'.heap = w.heap → (Builtin.firstCells sz k u).run P w' = .ok vs.toArray w') ∧ VRs m r.v vs ∧ r.h = h ∧ r.nx = n := by
  unfold rdEls at e
  cases x <;> first | (simp [A.fail] at e; done) | skip
  · rename_i s
    simp only at e
    cases hb : Nat.ble k s.size && Nat.beq sz 1 with
    | false => rw [hb] at e; simp [A.fail] at e
    | true =>
      rw [hb] at e
      have e1 := A.ret_inv e; subst e1
      refine ⟨(s.data.toList.take k).map fun b => .int .u8 b.toNat, fun w' _ => ?_, ?_, rfl, rfl⟩
      · rw [hv.str_inv]
        simp only [Builtin.firstCells, Sem.run_pure]
        congr 1
        apply Array.ext'
        simp [ByteArray.data_extract, List.extract]
      · generalize s.data.toList.take k = l
        induction l with
        | nil => exact VRs.nil
        | cons c l ih => exact VRs.cons_iff.2 ⟨VR.int _ _, ih⟩
  · rename_i b off len c
    simp only at e
    cases k with
    | zero =>
      have e1 := A.ret_inv e; subst e1
      simp only [VR] at hv
      obtain ⟨l, ad, cc, hl, hm, rfl, hlc, had, _⟩ := hv
      exact ⟨[], fun w' hw' => by simp only [Builtin.firstCells, Nat.zero_mul]; rfl, VRs.nil, rfl, rfl⟩
    | succ k =>
    simp only at e
    cases hb : Nat.ble (k + 1) len with
    | false => rw [hb] at e; simp [A.fail] at e
    | true =>
      rw [hb] at e
      have hle := Nat.le_of_ble_eq_true hb
      obtain ⟨r1, r2, e1, e2, rfl⟩ := A.bind_inv e
      obtain ⟨q, hq, rfl⟩ := rdBlk_inv e1
      obtain ⟨v, hs, rfl⟩ := A.ofOpt_inv e2
      simp only [VR] at hv
      obtain ⟨l, ad, cc, hl, hm, rfl, hlc, had, _⟩ := hv
      obtain ⟨vs, h1, h2, h3⟩ := (hr.at hq hl hm).readsSub hs
      refine ⟨vs, fun w' hw' => ?_, h1, rfl, rfl⟩
      simp only [Builtin.firstCells]
      rcases had with had | had
      · omega
      · rw [had, ← h2]
        exact run_loadCells_list (P := P) w' _ vs (fun j v hj => by
          rw [← h3 j v hj]; unfold World.cell?; rw [hw'])
  · simp only at e
    cases hb : Nat.beq k 0 with
    | false => rw [hb] at e; simp [A.fail] at e
    | true =>
      rw [hb] at e
      have e1 := A.ret_inv e; subst e1
      simp only [VR] at hv; subst hv
      exact ⟨[], fun w' _ => rfl, VRs.nil, rfl, rfl⟩

theorem rdEls_len {sz k : Nat} {x : AV} {r : Rs (List AV)} (e : rdEls sz k x h n lg = some r) : r.v.length = k * sz := by
  unfold rdEls at e
  cases x <;> first | (simp [A.fail] at e; done) | skip
  · rename_i s
    simp only at e
    cases hb : Nat.ble k s.size && Nat.beq sz 1 with
    | false => rw [hb] at e; simp [A.fail] at e
    | true =>
      rw [hb] at e
      have e1 := A.ret_inv e; subst e1
      rw [Bool.and_eq_true] at hb
      have hle := Nat.le_of_ble_eq_true hb.1
      have h1 := Nat.eq_of_beq_eq_true hb.2
      subst h1
      have hsz : s.data.toList.length = s.size := by simp
      simp; omega
  · rename_i b off len c
    simp only at e
    cases k with
    | zero =>
      have e1 := A.ret_inv e; subst e1
      simp
    | succ k =>
    simp only at e
    cases hb : Nat.ble (k + 1) len with
    | false => rw [hb] at e; simp [A.fail] at e
    | true =>
      rw [hb] at e
      obtain ⟨r1, r2, e1, e2, rfl⟩ := A.bind_inv e
      obtain ⟨v, hs', rfl⟩ := A.ofOpt_inv e2
      obtain ⟨g1, rfl⟩ := sub_some hs'
      simp; omega
  · simp only at e
    cases hb : Nat.beq k 0 with
    | false => rw [hb] at e; simp [A.fail] at e
    | true =>
      rw [hb] at e
      have e1 := A.ret_inv e; subst e1
      rw [Nat.eq_of_beq_eq_true hb]; simp

/-- What 'append' does once its second operand is read: k elements, their cells. -/
structure Appends (P : Program) (el sz : Nat) (atys : Array TypeId) (ty : TypeId) (s x : Value) (k : Nat) (news : List Value) (w : World) : Prop where
  /-- in place -/
  room : ∀ base len cap, s = .slice base len cap → len + k ≤ cap → ∀ w', (match base with | some ad => (storeCells (ad.add (len * sz)) news).run P w = .ok () w' | none => w' = w) →
    (Builtin.append_ atys ty #[s, x]).run P w = .ok (.slice base (len + k) cap) w'
  /-- in new memory -/
  grow : ∀ base len cap olds, s = .slice base len cap → cap < len + k → len + k ≤ 2 ^ 48 → (∀ w', w'.heap = w.heap → (Builtin.firstCells sz len s).run P w' = .ok olds w') →
    ∃ newCap rest, len + k ≤ newCap ∧ (Builtin.append_ atys ty #[s, x]).run P w = .ok (.slice (some ⟨w.heap.size, 0, none⟩) (len + k) newCap) (w.drew.alloc (.cells (olds.toList ++ news ++ rest).toArray el)) ∧ rest.length = (newCap - (len + k)) * sz

theorem cut_ge (need old : Nat) (e : TypeId) (t : Nat) : need ≤ (Question.appendCap need old e).cut t := by
  simp only [Question.cut]; omega

theorem zeros_list (z : Array Value) (k : Nat) : (Builtin.zeroCells z k).toList = reps k z.toList := made_list k z

set_option maxHeartbeats 1000000 in
theorem appends_of {t u el : TypeId} {sz by_ : Nat} {z : List AV} {atys : Array TypeId} {ty : TypeId} {s x : Value} {k : Nat} {news : List Value} (h0 : atys[0]? = some t) (h1 : atys[1]? = some u) (ht : P.underlying t = some (.slice el))
    (hi : szOf P el = some sz) (hb : byOf P el = some by_) (hz : zeroOf P el = some z) (hzl : z.length = sz)
    {d : TypeDesc} (hu : P.underlying u = some d) (hd : d = .string ∨ ∃ q, d = .slice q) (hlen : (Builtin.lenOf x).run P w = .ok k w) (hcells : ∀ w', w'.heap = w.heap → (Builtin.firstCells sz k x).run P w' = .ok news.toArray w')
    (hfit : ∀ base len cap, s = .slice base len cap → cap < len + k → (len + k) * by_ ≤ 140737488355328) : Appends P el sz atys ty s x k news w := by
  obtain ⟨i, hi', hsz⟩ := info_of_sz hi
  obtain ⟨i2, hi2, hby⟩ := info_of_by hb
  rw [hi'] at hi2; cases hi2
  obtain ⟨zv, hzr, hzv⟩ := run_zeroOf hz w.drew
  have hzs : zv.cells.size = sz := by rw [← Array.length_toList, (hzv (fun _ => none)).length, hzl]
  refine ⟨fun base len cap hs hroom w' hw' => ?_, fun base len cap olds hs hgrow h48 holds => ?_⟩
  · subst hs
    have hc := hcells w rfl
    cases base with
    | none =>
      simp only at hw'
      subst hw'
      rcases hd with rfl | ⟨q, rfl⟩ <;> simp [Builtin.append_, h0, h1, run_und ht, run_und hu, run_szOf hi, hlen, hroom, hc]
    | some ad =>
      simp only at hw'
      rcases hd with rfl | ⟨q, rfl⟩ <;> simp [Builtin.append_, h0, h1, run_und ht, run_und hu, run_szOf hi, hlen, hroom, hc, hw']
  · subst hs
    have hc := hcells w.drew rfl
    have ho := holds w.drew rfl
    have hn : ¬ (len + k ≤ cap) := by omega
    have h63 : ¬ (9223372036854775807 < ((len : Int) + (k : Int))) := by omega
    have h48' : ¬ (281474976710656 < Builtin.nextslicecap (len + k) cap * i.bytes) := by
      have := growslice_fits hgrow (hfit base len cap rfl hgrow)
      rw [hby]; omega
    refine ⟨grownCap w (len + k) cap el, reps (grownCap w (len + k) cap el - (len + k)) zv.cells.toList, cut_ge _ _ _ _, ?_, by rw [reps_length, Array.length_toList, hzs]⟩
    have key : ∀ (c : Array Value), c = (olds.toList ++ news ++ reps (grownCap w (len + k) cap el - (len + k)) zv.cells.toList).toArray → True := fun _ _ => trivial
    have harr : olds ++ news.toArray ++ Builtin.zeroCells zv.cells (grownCap w (len + k) cap el - (len + k)) = (olds.toList ++ news ++ reps (grownCap w (len + k) cap el - (len + k)) zv.cells.toList).toArray := by
      apply Array.ext'
      simp [zeros_list, List.append_assoc]
    rw [← harr]
    rcases hd with rfl | ⟨q, rfl⟩ <;> simp [Builtin.append_, h0, h1, run_und ht, run_und hu, run_szOf hi, hlen, hn, hc, ho, typeInfo, hi', h63, h48', Question.forced, hzr, newRow, grownCap]

theorem run_zeroOf' {t : Nat} {z : List AV} (h : zeroOf P t = some z) : ∃ v, (∀ w, (zeroValue t).run P w = .ok v w) ∧ ∀ m, VRs m z v.cells.toList := by
  unfold zeroOf at h
  obtain ⟨i, hi, h⟩ := Option.bind_eq_some_iff.1 h
  obtain ⟨v, hv, h⟩ := Option.bind_eq_some_iff.1 h
  exact ⟨v, fun w => by simp [zeroValue, typeInfo, hi, hv], fun m => ofVals_sound m h⟩
set_option maxHeartbeats 1000000 in
theorem appends_ofz {t u el : TypeId} {sz by_ : Nat} {atys : Array TypeId} {ty : TypeId} {s : Value} {k : Nat} {kd kk : IntKind} (h0 : atys[0]? = some t) (h1 : atys[1]? = some u) (ht : P.underlying t = some (.slice el))
    (hi : szOf P el = some sz) (hb : byOf P el = some by_) {zv : Value} (hzr0 : ∀ w, (zeroValue el).run P w = .ok zv w) (hzs : zv.cells.size = sz)
    (hu : P.underlying u = some (.int kd)) (hk : k < 281474976710656) (hkb : k * by_ ≤ 281474976710656)
    (hfit : ∀ base len cap, s = .slice base len cap → cap < len + k → (len + k) * by_ ≤ 140737488355328) : Appends P el sz atys ty s (.int kk (k : Int)) k (reps k zv.cells.toList) w := by
  obtain ⟨i, hi', hsz⟩ := info_of_sz hi
  obtain ⟨i2, hi2, hby⟩ := info_of_by hb
  rw [hi'] at hi2; cases hi2
  have hzw := hzr0 w
  have hzr := hzr0 w.drew
  have wr : IntKind.i64.wrap (k : Int) = k := by rw [IntKind.wrap_i64]; omega
  have hn0 : ¬ ((k : Int) < 0) := by omega
  have hn1 : ¬ ((k : Int) * (i.bytes : Int) > 281474976710656) := by
    rw [hby, ← Int.natCast_mul]
    intro h
    have := Int.ofNat_le.2 hkb
    exact absurd (Int.lt_of_lt_of_le h this) (Int.lt_irrefl _)
  cases s with
  | slice base len cap =>
    by_cases hroom : len + k ≤ cap
    · refine ⟨fun base' len' cap' hs hr w' hw' => ?_, fun base' len' cap' olds hs hgrow => ?_⟩
      · cases hs
        have hc : (reps k zv.cells.toList).toArray = Builtin.zeroCells zv.cells k := by
          apply Array.ext'
          simp [zeros_list]
        by_cases hk0 : k * sz = 0
        · have he : reps k zv.cells.toList = [] := List.eq_nil_of_length_eq_zero (by rw [reps_length, Array.length_toList, hzs, hk0])
          rw [he] at hw'
          cases base with
          | none =>
            simp only at hw'
            subst hw'
            simp [Builtin.append_, h0, h1, run_und ht, run_und hu, run_szOf hi, asInt, asIntOf, wr, hn0, hn1, typeInfo, hi', hroom, hk0]
          | some ad =>
            simp only at hw'
            simp [Builtin.append_, h0, h1, run_und ht, run_und hu, run_szOf hi, asInt, asIntOf, wr, hn0, hn1, typeInfo, hi', hroom, hk0, hw']
        · cases base with
          | none =>
            simp only at hw'
            subst hw'
            simp [Builtin.append_, h0, h1, run_und ht, run_und hu, run_szOf hi, asInt, asIntOf, wr, hn0, hn1, typeInfo, hi', hroom, hk0, hzw]
          | some ad =>
            simp only at hw'
            simp [Builtin.append_, h0, h1, run_und ht, run_und hu, run_szOf hi, asInt, asIntOf, wr, hn0, hn1, typeInfo, hi', hroom, hk0, hzw, zeros_list, hw']
      · cases hs; omega
    · refine ⟨fun base' len' cap' hs hr => ?_, fun base' len' cap' olds hs hgrow h48 holds => ?_⟩
      · cases hs; omega
      · cases hs
        have ho := holds w.drew rfl
        have hn : ¬ (len + k ≤ cap) := by omega
        have h63 : ¬ (9223372036854775807 < ((len : Int) + (k : Int))) := by omega
        have h48' : ¬ (281474976710656 < Builtin.nextslicecap (len + k) cap * i.bytes) := by
          have := growslice_fits hgrow (hfit base len cap rfl hgrow)
          rw [hby]; omega
        refine ⟨grownCap w (len + k) cap el, reps (grownCap w (len + k) cap el - (len + k)) zv.cells.toList, cut_ge _ _ _ _, ?_, by rw [reps_length, Array.length_toList, hzs]⟩
        by_cases hk0 : k * sz = 0
        · have he : reps k zv.cells.toList = [] := List.eq_nil_of_length_eq_zero (by rw [reps_length, Array.length_toList, hzs, hk0])
          have harr : olds ++ #[] ++ Builtin.zeroCells zv.cells (grownCap w (len + k) cap el - (len + k)) = (olds.toList ++ [] ++ reps (grownCap w (len + k) cap el - (len + k)) zv.cells.toList).toArray := by
            apply Array.ext'
            simp [zeros_list]
          rw [he, ← harr]
          simp [Builtin.append_, h0, h1, run_und ht, run_und hu, run_szOf hi, asInt, asIntOf, wr, hn0, hn1, hn, ho, typeInfo, hi', h63, h48', Question.forced, hzr, newRow, grownCap, hk0]
        · have harr : olds ++ Builtin.zeroCells zv.cells k ++ Builtin.zeroCells zv.cells (grownCap w (len + k) cap el - (len + k)) = (olds.toList ++ reps k zv.cells.toList ++ reps (grownCap w (len + k) cap el - (len + k)) zv.cells.toList).toArray := by
            apply Array.ext'
            simp [zeros_list, List.append_assoc]
          rw [← harr]
          simp [Builtin.append_, h0, h1, run_und ht, run_und hu, run_szOf hi, asInt, asIntOf, wr, hn0, hn1, hn, ho, typeInfo, hi', h63, h48', Question.forced, hzr, newRow, grownCap, hk0]
  | _ => exact ⟨fun _ _ _ hs => (by cases hs), fun _ _ _ _ hs => (by cases hs)⟩
end
end Go.Proofs.YtamfoplfbidolaaGreatDoorE

/- Ring: rings as rows of numbers, without the program. -/
namespace Go.Proofs.YtmgilbjhgpcjgaaT

theorem getLast_ap (t : List Int) (p d : Int) : (t ++ [p]).getLastD d = p := by simp [List.getLastD_eq_getLast?]
theorem split_last : ∀ (w : List Int), w = [] ∨ ∃ t p, w = t ++ [p]
  | [] => .inl rfl
  | a :: r => .inr (by
    rcases split_last r with rfl | ⟨t, p, rfl⟩
    · exact ⟨[], a, rfl⟩
    · exact ⟨a :: t, p, rfl⟩)
def gx (X : List Int) (i : Int) : Int := X.getD i.toNat (-1)
theorem gx_at {X : List Int} {i : Int} (h : 0 ≤ i ∧ i < X.length) (x : Int) : gx (X.set i.toNat x) i = x := by
  unfold gx
  rw [List.getD_eq_getElem?_getD, List.getElem?_set_self (by omega)]; rfl
theorem gx_ne {X : List Int} {i j : Int} (h : 0 ≤ i) (h' : 0 ≤ j) (e : i ≠ j) (x : Int) : gx (X.set i.toNat x) j = gx X j := by
  unfold gx
  rw [List.getD_eq_getElem?_getD, List.getElem?_set_ne (by omega), ← List.getD_eq_getElem?_getD]
def path (X Y : List Int) : List Int → Prop
  | [] => True
  | [_] => True
  | a :: b :: r => gx X a = b ∧ gx Y b = a ∧ path X Y (b :: r)
theorem path_app {X Y : List Int} : ∀ (u : List Int) (m : Int) (v : List Int), path X Y (u ++ m :: v) ↔ path X Y (u ++ [m]) ∧ path X Y (m :: v)
  | [], m, v => by simp [path]
  | [a], m, v => by simp [path, and_assoc]
  | a :: b :: u, m, v => by
    have := path_app (X := X) (Y := Y) (b :: u) m v
    simp only [List.cons_append, path] at this ⊢
    rw [this]
    simp [and_assoc]
theorem path_congr {X Y X' Y' : List Int} : ∀ {l : List Int}, path X Y l → (∀ a ∈ l.dropLast, gx X' a = gx X a) → (∀ b ∈ l.tail, gx Y' b = gx Y b) → path X' Y' l
  | [], _, _, _ => True.intro
  | [_], _, _, _ => True.intro
  | a :: b :: r, h, hx, hy => by
    simp only [path] at h ⊢
    refine ⟨by rw [hx a (by simp)]; exact h.1, by rw [hy b (by simp)]; exact h.2.1, path_congr h.2.2 (fun c hc => hx c ?_) (fun c hc => hy c ?_)⟩
    · simp only [List.dropLast_cons_cons]; exact List.mem_cons_of_mem _ hc
    · simp only [List.tail_cons] at hc ⊢; exact List.mem_cons_of_mem _ hc
theorem path_of {X Y : List Int} : ∀ {l : List Int}, (∀ i (h : i + 1 < l.length), gx X l[i] = l[i + 1] ∧ gx Y l[i + 1] = l[i]) → path X Y l
  | [], _ => True.intro
  | [_], _ => True.intro
  | a :: b :: r, h => by
    have h0 := h 0 (by simp)
    refine ⟨h0.1, h0.2, path_of fun i hi => ?_⟩
    exact h (i + 1) (by simpa using hi)
def cyc (X Y : List Int) : List Int → Prop
  | [] => True
  | a :: r => path X Y (a :: r ++ [a])
theorem cyc_one {X Y : List Int} {a : Int} {r : List Int} (h : cyc X Y (a :: r)) : cyc X Y (r ++ [a]) := by
  cases r with
  | nil => exact h
  | cons b r =>
    have h' : path X Y (a :: b :: (r ++ [a])) := h
    simp only [path] at h'
    show path X Y (b :: (r ++ [a]) ++ [b])
    have := (path_app (X := X) (Y := Y) (b :: r) a [b]).2 ⟨h'.2.2, by simp only [path]; exact ⟨h'.1, h'.2.1, trivial⟩⟩
    simpa using this
theorem cyc_rot {X Y : List Int} : ∀ {u v : List Int}, cyc X Y (u ++ v) → cyc X Y (v ++ u)
  | [], v, h => by simpa using h
  | a :: u, v, h => by
    have h1 : cyc X Y (u ++ v ++ [a]) := cyc_one h
    rw [List.append_assoc] at h1
    have h2 := cyc_rot (u := u) (v := v ++ [a]) h1
    rw [List.append_assoc] at h2
    exact h2
/-- The rows of a ring whose places go so. -/
structure Link (X Y L : List Int) : Prop where
  len : Y.length = X.length
  nd : L.Nodup
  dom : ∀ i ∈ L, 0 ≤ i ∧ i < X.length
  off : ∀ i : Int, 0 ≤ i → i < X.length → i ∉ L → gx X i = -1
  cyc : cyc X Y L
/-- From one on, all are met. -/
def ch (X : List Int) (i : Int) : List Int → Prop
  | [] => True
  | k :: r => (0 ≤ k ∧ k < X.length) ∧ k ≠ i ∧ gx X k = r.headD i ∧ ch X i r
theorem path_ch {X Y : List Int} {i : Int} : ∀ {w : List Int} {k : Int}, path X Y (k :: w ++ [i]) → gx X k = w.headD i ∧ ((∀ j ∈ w, 0 ≤ j ∧ j < X.length) → i ∉ w → ch X i w)
  | [], k, h => by
    simp only [List.cons_append, List.nil_append, path] at h
    exact ⟨h.1, fun _ _ => trivial⟩
  | b :: w, k, h => by
    simp only [List.cons_append, path] at h
    obtain ⟨e, f⟩ := path_ch (w := w) (k := b) (by simpa using h.2.2)
    refine ⟨h.1, fun hd hn => ?_⟩
    simp only [List.mem_cons, not_or] at hn
    exact ⟨hd b (by simp), Ne.symm hn.1, e, f (fun j hj => hd j (by simp [hj])) hn.2⟩
theorem Link.turn {X Y u v : List Int} {i : Int} (l : Link X Y (u ++ i :: v)) : path X Y (i :: (v ++ u) ++ [i]) := by
  exact cyc_rot (u := u) (v := i :: v) l.cyc
theorem Link.apart {X Y u v : List Int} {i : Int} (l : Link X Y (u ++ i :: v)) : (i :: (v ++ u)).Nodup ∧ (0 ≤ i ∧ i < X.length) ∧ ∀ j ∈ v ++ u, 0 ≤ j ∧ j < X.length := by
  have h1 : (i :: v ++ u).Nodup := (List.perm_append_comm.nodup_iff).1 l.nd
  refine ⟨h1, l.dom i (by simp), fun j hj => l.dom j ?_⟩
  rw [List.mem_append] at hj ⊢
  rcases hj with hj | hj
  · exact .inr (List.mem_cons_of_mem _ hj)
  · exact .inl hj
theorem Link.next {X Y u v : List Int} {i : Int} (l : Link X Y (u ++ i :: v)) : gx X i = (v ++ u).headD i ∧ ch X i (v ++ u) := by
  obtain ⟨e, f⟩ := path_ch l.turn
  obtain ⟨a, _, d⟩ := l.apart
  exact ⟨e, f d (List.nodup_cons.1 a).1⟩
theorem Link.prev {X Y u v : List Int} {i : Int} (l : Link X Y (u ++ i :: v)) : gx Y i = (v ++ u).getLastD i := by
  have h := l.turn
  generalize v ++ u = w at h
  rcases split_last w with rfl | ⟨t, p, rfl⟩
  · simp only [List.cons_append, List.nil_append, path] at h
    exact h.2.1
  · have e : i :: (t ++ [p]) ++ [i] = (i :: t) ++ p :: [i] := by simp
    rw [e, path_app] at h
    simp only [path] at h
    rw [getLast_ap]
    exact h.2.2.1
theorem headD_mem (w : List Int) (i : Int) : w.headD i ∈ i :: w := by cases w <;> simp
theorem lastD_mem (w : List Int) (i : Int) : w.getLastD i ∈ i :: w := by
  rcases split_last w with rfl | ⟨t, p, rfl⟩
  · simp
  · rw [getLast_ap]; simp
theorem Link.ends {X Y u v : List Int} {i : Int} (l : Link X Y (u ++ i :: v)) : (0 ≤ gx X i ∧ gx X i < X.length) ∧ (0 ≤ gx Y i ∧ gx Y i < X.length) := by
  obtain ⟨a, b, d⟩ := l.apart
  have hd : ∀ j ∈ i :: (v ++ u), 0 ≤ j ∧ j < X.length := by
    intro j hj
    rcases List.mem_cons.1 hj with rfl | hj
    · exact b
    · exact d j hj
  rw [l.next.1, l.prev]
  exact ⟨hd _ (headD_mem ..), hd _ (lastD_mem ..)⟩
theorem mem_split {L : List Int} {i : Int} (h : i ∈ L) : ∃ u v, L = u ++ i :: v ∧ i ∉ u := by
  induction L with
  | nil => cases h
  | cons a L ih =>
    by_cases e : a = i
    · exact ⟨[], L, by rw [e]; rfl, by simp⟩
    · have h' : i ∈ L := by
        rcases List.mem_cons.1 h with r | r
        · exact absurd r.symm e
        · exact r
      obtain ⟨u, v, rfl, f⟩ := ih h'
      exact ⟨a :: u, v, rfl, by simp only [List.mem_cons, not_or]; exact ⟨fun g => e g.symm, f⟩⟩
/-- One goes out. -/
theorem Link.out {X Y u v : List Int} {i : Int} (l : Link X Y (u ++ i :: v)) : Link ((X.set (gx Y i).toNat (gx X i)).set i.toNat (-1)) ((Y.set (gx X i).toNat (gx Y i)).set i.toNat (-1)) (u ++ v) := by
  obtain ⟨a, b, d⟩ := l.apart
  obtain ⟨e1, e2⟩ := l.ends
  have hl := l.len
  have hsub : (u ++ v).Sublist (u ++ i :: v) := List.Sublist.append_left (List.sublist_cons_self ..) _
  refine ⟨by simp [hl], l.nd.sublist hsub, fun j hj => by simpa using l.dom j (hsub.subset hj), fun j h0 h1 hj => ?_, ?_⟩
  · have h1' : j < X.length := by simpa using h1
    by_cases e : j = i
    · subst e; exact gx_at (by simpa using ⟨h0, h1'⟩) _
    · have hj' : j ∉ u ++ i :: v := by
        intro h
        rw [List.mem_append, List.mem_cons] at h
        rcases h with h | h | h
        · exact hj (List.mem_append.2 (.inl h))
        · exact e h
        · exact hj (List.mem_append.2 (.inr h))
      have hp : gx Y i ≠ j := by
        intro h
        have := lastD_mem (v ++ u) i
        rw [← l.prev, h] at this
        apply hj'
        rw [List.mem_cons, List.mem_append] at this
        rw [List.mem_append, List.mem_cons]
        rcases this with h | h | h
        · exact .inr (.inl h)
        · exact .inr (.inr h)
        · exact .inl h
      rw [gx_ne b.1 h0 (Ne.symm e), gx_ne e2.1 h0 hp]
      exact l.off j h0 h1' hj'
  · apply cyc_rot
    have h := l.turn
    have en := l.next.1
    have ep := l.prev
    generalize hN : gx X i = N at *
    generalize hP : gx Y i = P at *
    generalize v ++ u = w at *
    cases w with
    | nil => trivial
    | cons n w =>
      simp only [List.headD_cons] at en
      subst en
      rcases split_last (N :: w) with q | ⟨t, p, q⟩
      · cases q
      · rw [q, getLast_ap] at ep
        subst ep
        show path _ _ (N :: w ++ [N])
        rw [q, List.append_assoc]
        rw [show i :: (N :: w) ++ [i] = [i] ++ (N :: (w ++ [i])) by simp, path_app] at h
        have h2 := h.2
        rw [show N :: (w ++ [i]) = (N :: w) ++ [i] by simp, q, List.append_assoc] at h2
        have h3 := ((path_app t P [i]).1 h2).1
        have nd2 := (List.nodup_cons.1 a)
        refine (path_app t P [N]).2 ⟨path_congr h3 (fun c hc => ?_) (fun c hc => ?_), ?_⟩
        · rw [List.dropLast_concat] at hc
          have hcw : c ∈ N :: w := by rw [q]; exact List.mem_append.2 (.inl hc)
          have c0 := (d c hcw).1
          have ci : i ≠ c := fun e => nd2.1 (e ▸ hcw)
          have cp : P ≠ c := by
            intro e
            subst e
            have := nd2.2
            rw [q, List.nodup_append] at this
            exact this.2.2 P hc P (by simp) rfl
          rw [gx_ne b.1 c0 ci, gx_ne e2.1 c0 cp]
        · rw [← q, List.tail_cons] at hc
          have hcw : c ∈ N :: w := List.mem_cons_of_mem _ hc
          have c0 := (d c hcw).1
          have ci : i ≠ c := fun e => nd2.1 (e ▸ hcw)
          have cp : N ≠ c := by
            intro e
            subst e
            exact (List.nodup_cons.1 nd2.2).1 hc
          rw [gx_ne b.1 c0 ci, gx_ne e1.1 c0 cp]
        · have pw : P ∈ N :: w := by rw [q]; simp
          have pi : i ≠ P := fun e => nd2.1 (e ▸ pw)
          have ni : i ≠ N := fun e => nd2.1 (e ▸ List.mem_cons_self ..)
          simp only [path, and_true]
          exact ⟨by rw [gx_ne b.1 e2.1 pi, gx_at e2], by rw [gx_ne b.1 e1.1 ni, gx_at (by omega)]⟩
/-- One goes in ahead of another. -/
theorem Link.put {X Y u v : List Int} {a : Int} (l : Link X Y (u ++ a :: v)) {i : Int} (hi : 0 ≤ i ∧ i < X.length) (hn : i ∉ u ++ a :: v) : Link ((X.set (gx Y a).toNat i).set i.toNat a) ((Y.set a.toNat i).set i.toNat (gx Y a)) (u ++ i :: a :: v) := by
  obtain ⟨ap, b, d⟩ := l.apart
  obtain ⟨e1, e2⟩ := l.ends
  have hl := l.len
  have h1 : (i :: (u ++ a :: v)).Nodup := List.nodup_cons.2 ⟨hn, l.nd⟩
  have pm : (u ++ i :: a :: v).Perm (i :: (u ++ a :: v)) := List.perm_middle
  have hia : i ≠ a := fun e => hn (by rw [e]; simp)
  have pin : gx Y a ∈ u ++ a :: v := by
    have := lastD_mem (v ++ u) a
    rw [← l.prev] at this
    rw [List.mem_cons, List.mem_append] at this
    rw [List.mem_append, List.mem_cons]
    rcases this with h | h | h
    · exact .inr (.inl h)
    · exact .inr (.inr h)
    · exact .inl h
  have hip : i ≠ gx Y a := fun e => hn (e ▸ pin)
  refine ⟨by simp [hl], pm.nodup_iff.2 h1, fun j hj => ?_, fun j h0 h1 hj => ?_, ?_⟩
  · have hj' := pm.subset hj
    simp only [List.length_set]
    rcases List.mem_cons.1 hj' with rfl | hj'
    · exact hi
    · exact l.dom j hj'
  · have h1' : j < X.length := by simpa using h1
    have hj' : j ∉ i :: (u ++ a :: v) := fun h => hj (pm.symm.subset h)
    rw [List.mem_cons, not_or] at hj'
    have hp : gx Y a ≠ j := fun e => hj'.2 (e ▸ pin)
    rw [gx_ne hi.1 h0 (Ne.symm hj'.1), gx_ne e2.1 h0 hp]
    exact l.off j h0 h1' hj'.2
  · apply cyc_rot
    have h := l.turn
    have ep := l.prev
    generalize hP : gx Y a = P at *
    have hnw : ∀ c ∈ a :: (v ++ u), c ≠ i := by
      intro c hc e
      subst e
      apply hn
      rw [List.mem_cons, List.mem_append] at hc
      rw [List.mem_append, List.mem_cons]
      rcases hc with h | h | h
      · exact .inr (.inl h)
      · exact .inr (.inr h)
      · exact .inl h
    show path _ _ (i :: a :: (v ++ u) ++ [i])
    generalize v ++ u = w at *
    rcases split_last (a :: w) with q | ⟨t, p, q⟩
    · cases q
    · have epp : p = P := by
        rw [ep]
        rcases split_last w with rfl | ⟨t', p', rfl⟩
        · have : t = [] ∧ a = p := by
            cases t with
            | nil => simpa using q
            | cons x t => simp at q
          rw [← this.2]; rfl
        · rw [getLast_ap]
          have := congrArg (fun l => l.getLastD 0) q
          simp only [← List.cons_append, getLast_ap] at this
          exact this.symm
      subst epp
      rw [q, List.append_assoc] at h
      have h3 := ((path_app t p [a]).1 h).1
      have nd2 := List.nodup_cons.1 ap
      have hd : ∀ c ∈ a :: w, 0 ≤ c := by
        intro c hc
        rcases List.mem_cons.1 hc with rfl | hc
        · exact b.1
        · exact (d c hc).1
      refine ⟨gx_at (by simpa using hi) _, by rw [gx_ne hi.1 b.1 hia, gx_at (by omega)], ?_⟩
      show path _ _ (a :: w ++ [i])
      rw [q, List.append_assoc]
      refine (path_app t p [i]).2 ⟨path_congr h3 (fun c hc => ?_) (fun c hc => ?_), ?_⟩
      · rw [List.dropLast_concat] at hc
        have hcw : c ∈ a :: w := by rw [q]; exact List.mem_append.2 (.inl hc)
        have cp : p ≠ c := by
          intro e
          subst e
          have := ap
          rw [q, List.nodup_append] at this
          exact this.2.2 p hc p (by simp) rfl
        rw [gx_ne hi.1 (hd c hcw) (Ne.symm (hnw c hcw)), gx_ne e2.1 (hd c hcw) cp]
      · rw [← q, List.tail_cons] at hc
        have hcw : c ∈ a :: w := List.mem_cons_of_mem _ hc
        have ca : a ≠ c := fun e => nd2.1 (e ▸ hc)
        rw [gx_ne hi.1 (hd c hcw) (Ne.symm (hnw c hcw)), gx_ne b.1 (hd c hcw) ca]
      · simp only [path, and_true]
        exact ⟨by rw [gx_ne hi.1 e2.1 hip, gx_at e2], gx_at (by simp only [List.length_set]; omega) _⟩
theorem Link.one {X Y : List Int} (l : Link X Y []) {i : Int} (hi : 0 ≤ i ∧ i < X.length) : Link (X.set i.toNat i) (Y.set i.toNat i) [i] := by
  have hl := l.len
  refine ⟨by simp [hl], by simp, fun j hj => by rw [List.mem_singleton.1 hj]; simpa using hi, fun j h0 h1 hj => ?_, ?_⟩
  · have : i ≠ j := fun e => hj (by simp [e])
    rw [gx_ne hi.1 h0 this]
    exact l.off j h0 (by simpa using h1) (by simp)
  · exact ⟨gx_at hi _, gx_at (by omega) _, trivial⟩
end Go.Proofs.YtmgilbjhgpcjgaaT

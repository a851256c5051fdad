-- PRINTED BY print.sh 35421559b90ae4d0a3588c463048766b98c2df88dd9212a6774a882060cdf62d: not written by this session
import Derived.Test.YtolflgfcldhfjaaPWordKindsx0
import Derived.Test.YtolflgfcldhfjaaPWordKindsx1
namespace Go.Proofs.Ytolflgfcldhfjaa.PWordKinds
open Go.RowKit Go.Proofs.YtolflgfcldhfjaaW.PrintWords Go.Proofs.YtolflgfcldhfjaaW.PrintLast Go.Proofs.YtolflgfcldhfjaaW.PrintMore
attribute [local go_sem] max2_int min2_int max_two min_two max_three min_three max_four min_four   -- for this text's walks alone
set_option linter.unusedVariables false
set_option linter.unusedSimpArgs false

/-! ### treadwheellaw1_WordKinds: function 4 -/
def treadwheellaw1_WordKinds.f (k : Nat) (a0 : Int) (a1 : Int) : Option (Bool) := (word_Num.f a0).bind fun bt134 => ((word_ID.f a0).bind fun bt136 => ((word_Oop.f a1).bind fun t138 => ((word_ID.f t138).bind fun bt139 => (if bt134.2 = true then (if (true == (a0 != 0)) = true then (if bt136.2 = true then (some false) else (if a1 ≥ 1 then (if (bt139.2 == (decide (a1 ≤ 2147483647))) = true then (if bt139.2 = true then (if bt139.1 = a1 then ((treadwheellaw1_known.f k).bind fun t141 => (some t141)) else (some false)) else ((treadwheellaw1_known.f k).bind fun t142 => (some t142))) else (some false)) else (if (bt139.2 == false) = true then (if bt139.2 = true then (if bt139.1 = a1 then ((treadwheellaw1_known.f k).bind fun t143 => (some t143)) else (some false)) else ((treadwheellaw1_known.f k).bind fun t144 => (some t144))) else (some false)))) else (some false)) else (if (bt136.2 == (a0 != 0)) = true then (if bt136.2 = true then ((word_Oop.f bt136.1).bind fun t145 => (if t145 = a0 then (if a1 ≥ 1 then (if (bt139.2 == (decide (a1 ≤ 2147483647))) = true then (if bt139.2 = true then (if bt139.1 = a1 then ((treadwheellaw1_known.f k).bind fun t146 => (some t146)) else (some false)) else ((treadwheellaw1_known.f k).bind fun t147 => (some t147))) else (some false)) else (if (bt139.2 == false) = true then (if bt139.2 = true then (if bt139.1 = a1 then ((treadwheellaw1_known.f k).bind fun t148 => (some t148)) else (some false)) else ((treadwheellaw1_known.f k).bind fun t149 => (some t149))) else (some false))) else (some false))) else (if a1 ≥ 1 then (if (bt139.2 == (decide (a1 ≤ 2147483647))) = true then (if bt139.2 = true then (if bt139.1 = a1 then ((treadwheellaw1_known.f k).bind fun t150 => (some t150)) else (some false)) else ((treadwheellaw1_known.f k).bind fun t151 => (some t151))) else (some false)) else (if (bt139.2 == false) = true then (if bt139.2 = true then (if bt139.1 = a1 then ((treadwheellaw1_known.f k).bind fun t152 => (some t152)) else (some false)) else ((treadwheellaw1_known.f k).bind fun t153 => (some t153))) else (some false)))) else (some false))))))
theorem treadwheellaw1_WordKinds.mono : ∀ a0 a1 k, LeO (treadwheellaw1_WordKinds.f k a0 a1) (treadwheellaw1_WordKinds.f (k + 1) a0 a1) := by
  intro a0 a1 k
  unfold treadwheellaw1_WordKinds.f
  repeat' first
      | (with_reducible exact treadwheellaw1_known.mono _)
      | (with_reducible exact LeO.refl _)
      | (with_reducible exact LeO.none _)
      | (with_reducible refine LeO.ite ?_ ?_)
      | (with_reducible refine LeO.bind ?_ (fun _ => ?_))
      | exact treadwheellaw1_known.mono _
      | exact LeO.none _
      | refine LeO.ite ?_ ?_
      | refine LeO.bind ?_ (fun _ => ?_)
set_option maxHeartbeats 8000000 in
set_option maxRecDepth 100000 in
theorem treadwheellaw1_WordKinds.calls (k : Nat) (a0 : Int) (a1 : Int) (r : Bool) (w : World) (h : treadwheellaw1_WordKinds.f k a0 a1 = some r) :
    Calls Try.prog 4 #[.int .u32 a0, .int .i64 a1] w fun e w' => e = .returned (.bool r) ∧ Drawn0 w w' := by
  have H : ((word_Num.f a0).bind fun bt134 => ((word_ID.f a0).bind fun bt136 => ((word_Oop.f a1).bind fun t138 => ((word_ID.f t138).bind fun bt139 => (if bt134.2 = true then (if (true == (a0 != 0)) = true then (if bt136.2 = true then (some false) else (if a1 ≥ 1 then (if (bt139.2 == (decide (a1 ≤ 2147483647))) = true then (if bt139.2 = true then (if bt139.1 = a1 then ((treadwheellaw1_known.f k).bind fun t141 => (some t141)) else (some false)) else ((treadwheellaw1_known.f k).bind fun t142 => (some t142))) else (some false)) else (if (bt139.2 == false) = true then (if bt139.2 = true then (if bt139.1 = a1 then ((treadwheellaw1_known.f k).bind fun t143 => (some t143)) else (some false)) else ((treadwheellaw1_known.f k).bind fun t144 => (some t144))) else (some false)))) else (some false)) else (if (bt136.2 == (a0 != 0)) = true then (if bt136.2 = true then ((word_Oop.f bt136.1).bind fun t145 => (if t145 = a0 then (if a1 ≥ 1 then (if (bt139.2 == (decide (a1 ≤ 2147483647))) = true then (if bt139.2 = true then (if bt139.1 = a1 then ((treadwheellaw1_known.f k).bind fun t146 => (some t146)) else (some false)) else ((treadwheellaw1_known.f k).bind fun t147 => (some t147))) else (some false)) else (if (bt139.2 == false) = true then (if bt139.2 = true then (if bt139.1 = a1 then ((treadwheellaw1_known.f k).bind fun t148 => (some t148)) else (some false)) else ((treadwheellaw1_known.f k).bind fun t149 => (some t149))) else (some false))) else (some false))) else (if a1 ≥ 1 then (if (bt139.2 == (decide (a1 ≤ 2147483647))) = true then (if bt139.2 = true then (if bt139.1 = a1 then ((treadwheellaw1_known.f k).bind fun t150 => (some t150)) else (some false)) else ((treadwheellaw1_known.f k).bind fun t151 => (some t151))) else (some false)) else (if (bt139.2 == false) = true then (if bt139.2 = true then (if bt139.1 = a1 then ((treadwheellaw1_known.f k).bind fun t152 => (some t152)) else (some false)) else ((treadwheellaw1_known.f k).bind fun t153 => (some t153))) else (some false)))) else (some false))))))) = some r := h
  clear h
  replace H := Option.bind_eq_some_iff.mp H
  obtain ⟨⟨t134, t135⟩, A30, H⟩ := H
  replace H : ((word_ID.f a0).bind fun bt136 => ((word_Oop.f a1).bind fun t138 => ((word_ID.f t138).bind fun bt139 => (if t135 = true then (if (true == (a0 != 0)) = true then (if bt136.2 = true then (some false) else (if a1 ≥ 1 then (if (bt139.2 == (decide (a1 ≤ 2147483647))) = true then (if bt139.2 = true then (if bt139.1 = a1 then ((treadwheellaw1_known.f k).bind fun t141 => (some t141)) else (some false)) else ((treadwheellaw1_known.f k).bind fun t142 => (some t142))) else (some false)) else (if (bt139.2 == false) = true then (if bt139.2 = true then (if bt139.1 = a1 then ((treadwheellaw1_known.f k).bind fun t143 => (some t143)) else (some false)) else ((treadwheellaw1_known.f k).bind fun t144 => (some t144))) else (some false)))) else (some false)) else (if (bt136.2 == (a0 != 0)) = true then (if bt136.2 = true then ((word_Oop.f bt136.1).bind fun t145 => (if t145 = a0 then (if a1 ≥ 1 then (if (bt139.2 == (decide (a1 ≤ 2147483647))) = true then (if bt139.2 = true then (if bt139.1 = a1 then ((treadwheellaw1_known.f k).bind fun t146 => (some t146)) else (some false)) else ((treadwheellaw1_known.f k).bind fun t147 => (some t147))) else (some false)) else (if (bt139.2 == false) = true then (if bt139.2 = true then (if bt139.1 = a1 then ((treadwheellaw1_known.f k).bind fun t148 => (some t148)) else (some false)) else ((treadwheellaw1_known.f k).bind fun t149 => (some t149))) else (some false))) else (some false))) else (if a1 ≥ 1 then (if (bt139.2 == (decide (a1 ≤ 2147483647))) = true then (if bt139.2 = true then (if bt139.1 = a1 then ((treadwheellaw1_known.f k).bind fun t150 => (some t150)) else (some false)) else ((treadwheellaw1_known.f k).bind fun t151 => (some t151))) else (some false)) else (if (bt139.2 == false) = true then (if bt139.2 = true then (if bt139.1 = a1 then ((treadwheellaw1_known.f k).bind fun t152 => (some t152)) else (some false)) else ((treadwheellaw1_known.f k).bind fun t153 => (some t153))) else (some false)))) else (some false)))))) = some r := H
  have A3 := Aside0.mk A30
  clear A30
  replace H := Option.bind_eq_some_iff.mp H
  obtain ⟨⟨t136, t137⟩, A40, H⟩ := H
  replace H : ((word_Oop.f a1).bind fun t138 => ((word_ID.f t138).bind fun bt139 => (if t135 = true then (if (true == (a0 != 0)) = true then (if t137 = true then (some false) else (if a1 ≥ 1 then (if (bt139.2 == (decide (a1 ≤ 2147483647))) = true then (if bt139.2 = true then (if bt139.1 = a1 then ((treadwheellaw1_known.f k).bind fun t141 => (some t141)) else (some false)) else ((treadwheellaw1_known.f k).bind fun t142 => (some t142))) else (some false)) else (if (bt139.2 == false) = true then (if bt139.2 = true then (if bt139.1 = a1 then ((treadwheellaw1_known.f k).bind fun t143 => (some t143)) else (some false)) else ((treadwheellaw1_known.f k).bind fun t144 => (some t144))) else (some false)))) else (some false)) else (if (t137 == (a0 != 0)) = true then (if t137 = true then ((word_Oop.f t136).bind fun t145 => (if t145 = a0 then (if a1 ≥ 1 then (if (bt139.2 == (decide (a1 ≤ 2147483647))) = true then (if bt139.2 = true then (if bt139.1 = a1 then ((treadwheellaw1_known.f k).bind fun t146 => (some t146)) else (some false)) else ((treadwheellaw1_known.f k).bind fun t147 => (some t147))) else (some false)) else (if (bt139.2 == false) = true then (if bt139.2 = true then (if bt139.1 = a1 then ((treadwheellaw1_known.f k).bind fun t148 => (some t148)) else (some false)) else ((treadwheellaw1_known.f k).bind fun t149 => (some t149))) else (some false))) else (some false))) else (if a1 ≥ 1 then (if (bt139.2 == (decide (a1 ≤ 2147483647))) = true then (if bt139.2 = true then (if bt139.1 = a1 then ((treadwheellaw1_known.f k).bind fun t150 => (some t150)) else (some false)) else ((treadwheellaw1_known.f k).bind fun t151 => (some t151))) else (some false)) else (if (bt139.2 == false) = true then (if bt139.2 = true then (if bt139.1 = a1 then ((treadwheellaw1_known.f k).bind fun t152 => (some t152)) else (some false)) else ((treadwheellaw1_known.f k).bind fun t153 => (some t153))) else (some false)))) else (some false))))) = some r := H
  have A4 := Aside0.mk A40
  clear A40
  replace H := Option.bind_eq_some_iff.mp H
  obtain ⟨t138, A50, H⟩ := H
  replace H : ((word_ID.f t138).bind fun bt139 => (if t135 = true then (if (true == (a0 != 0)) = true then (if t137 = true then (some false) else (if a1 ≥ 1 then (if (bt139.2 == (decide (a1 ≤ 2147483647))) = true then (if bt139.2 = true then (if bt139.1 = a1 then ((treadwheellaw1_known.f k).bind fun t141 => (some t141)) else (some false)) else ((treadwheellaw1_known.f k).bind fun t142 => (some t142))) else (some false)) else (if (bt139.2 == false) = true then (if bt139.2 = true then (if bt139.1 = a1 then ((treadwheellaw1_known.f k).bind fun t143 => (some t143)) else (some false)) else ((treadwheellaw1_known.f k).bind fun t144 => (some t144))) else (some false)))) else (some false)) else (if (t137 == (a0 != 0)) = true then (if t137 = true then ((word_Oop.f t136).bind fun t145 => (if t145 = a0 then (if a1 ≥ 1 then (if (bt139.2 == (decide (a1 ≤ 2147483647))) = true then (if bt139.2 = true then (if bt139.1 = a1 then ((treadwheellaw1_known.f k).bind fun t146 => (some t146)) else (some false)) else ((treadwheellaw1_known.f k).bind fun t147 => (some t147))) else (some false)) else (if (bt139.2 == false) = true then (if bt139.2 = true then (if bt139.1 = a1 then ((treadwheellaw1_known.f k).bind fun t148 => (some t148)) else (some false)) else ((treadwheellaw1_known.f k).bind fun t149 => (some t149))) else (some false))) else (some false))) else (if a1 ≥ 1 then (if (bt139.2 == (decide (a1 ≤ 2147483647))) = true then (if bt139.2 = true then (if bt139.1 = a1 then ((treadwheellaw1_known.f k).bind fun t150 => (some t150)) else (some false)) else ((treadwheellaw1_known.f k).bind fun t151 => (some t151))) else (some false)) else (if (bt139.2 == false) = true then (if bt139.2 = true then (if bt139.1 = a1 then ((treadwheellaw1_known.f k).bind fun t152 => (some t152)) else (some false)) else ((treadwheellaw1_known.f k).bind fun t153 => (some t153))) else (some false)))) else (some false)))) = some r := H
  have A5 := Aside0.mk A50
  clear A50
  replace H := Option.bind_eq_some_iff.mp H
  obtain ⟨⟨t139, t140⟩, A60, H⟩ := H
  replace H : (if t135 = true then (if (true == (a0 != 0)) = true then (if t137 = true then (some false) else (if a1 ≥ 1 then (if (t140 == (decide (a1 ≤ 2147483647))) = true then (if t140 = true then (if t139 = a1 then ((treadwheellaw1_known.f k).bind fun t141 => (some t141)) else (some false)) else ((treadwheellaw1_known.f k).bind fun t142 => (some t142))) else (some false)) else (if (t140 == false) = true then (if t140 = true then (if t139 = a1 then ((treadwheellaw1_known.f k).bind fun t143 => (some t143)) else (some false)) else ((treadwheellaw1_known.f k).bind fun t144 => (some t144))) else (some false)))) else (some false)) else (if (t137 == (a0 != 0)) = true then (if t137 = true then ((word_Oop.f t136).bind fun t145 => (if t145 = a0 then (if a1 ≥ 1 then (if (t140 == (decide (a1 ≤ 2147483647))) = true then (if t140 = true then (if t139 = a1 then ((treadwheellaw1_known.f k).bind fun t146 => (some t146)) else (some false)) else ((treadwheellaw1_known.f k).bind fun t147 => (some t147))) else (some false)) else (if (t140 == false) = true then (if t140 = true then (if t139 = a1 then ((treadwheellaw1_known.f k).bind fun t148 => (some t148)) else (some false)) else ((treadwheellaw1_known.f k).bind fun t149 => (some t149))) else (some false))) else (some false))) else (if a1 ≥ 1 then (if (t140 == (decide (a1 ≤ 2147483647))) = true then (if t140 = true then (if t139 = a1 then ((treadwheellaw1_known.f k).bind fun t150 => (some t150)) else (some false)) else ((treadwheellaw1_known.f k).bind fun t151 => (some t151))) else (some false)) else (if (t140 == false) = true then (if t140 = true then (if t139 = a1 then ((treadwheellaw1_known.f k).bind fun t152 => (some t152)) else (some false)) else ((treadwheellaw1_known.f k).bind fun t153 => (some t153))) else (some false)))) else (some false))) = some r := H
  have A6 := Aside0.mk A60
  clear A60
  by_cases c7 : t135 = true
  · subst c7
    have H1 : (if (true == (a0 != 0)) = true then (if t137 = true then (some false) else (if a1 ≥ 1 then (if (t140 == (decide (a1 ≤ 2147483647))) = true then (if t140 = true then (if t139 = a1 then ((treadwheellaw1_known.f k).bind fun t141 => (some t141)) else (some false)) else ((treadwheellaw1_known.f k).bind fun t142 => (some t142))) else (some false)) else (if (t140 == false) = true then (if t140 = true then (if t139 = a1 then ((treadwheellaw1_known.f k).bind fun t143 => (some t143)) else (some false)) else ((treadwheellaw1_known.f k).bind fun t144 => (some t144))) else (some false)))) else (some false)) = some r := by rw [if_pos rfl] at H; exact H
    clear H
    have H := H1
    clear H1
    by_cases c8 : (true == (a0 != 0)) = true
    · rw [if_pos c8] at H
      have c8b0 : (true == (a0 != 0)) = true := c8
      (try (have c8b1 : decide (true = (a0 != 0)) = true := by simpa using c8))
      (try (have c8b2 : (true == (a0 != 0)) = true := by simpa using c8))
      clear c8
      by_cases c9 : t137 = true
      · subst c9
        have H1 : (some false) = some r := by rw [if_pos rfl] at H; exact H
        clear H
        have H := H1
        clear H1
        obtain rfl := Option.some.inj H
        go_enter Try.func4, Try.ntmps4
        go_wp2_with (first | ((with_reducible refine gate_callee (f := 11) rfl ?_); refine goesL_ (some 14) rfl rfl Try.func11 (by kernel_rfl) rfl #[.int .u32 a0] rfl (by (try simp only [List.map_toArray, List.map_cons, List.map_nil]); first | done | rfl | (simp only [List.length_drop, List.length_take]; rfl)) ?_; (with_reducible refine (word_Num.calls a0 t134 true _ A3.out).mono ?_); rintro e w' ⟨rfl, ⟨nd, rfl⟩⟩; refine ⟨_, rfl, ?_⟩) | ((with_reducible refine gate_callee (f := 13) rfl ?_); refine goesL_ (some 19) rfl rfl Try.func13 (by kernel_rfl) rfl #[.int .u32 a0] rfl (by (try simp only [List.map_toArray, List.map_cons, List.map_nil]); first | done | rfl | (simp only [List.length_drop, List.length_take]; rfl)) ?_; (with_reducible refine (word_ID.calls a0 t136 true _ A4.out).mono ?_); rintro e w' ⟨rfl, ⟨nd, rfl⟩⟩; refine ⟨_, rfl, ?_⟩) | ((with_reducible refine gate_callee (f := 14) rfl ?_); refine goesL_ (some 23) rfl rfl Try.func14 (by kernel_rfl) rfl #[.int .i64 a1] rfl (by (try simp only [List.map_toArray, List.map_cons, List.map_nil]); first | done | rfl | (simp only [List.length_drop, List.length_take]; rfl)) ?_; (with_reducible refine (word_Oop.calls a1 t138 _ A5.out).mono ?_); rintro e w' ⟨rfl, ⟨nd, rfl⟩⟩; refine ⟨_, rfl, ?_⟩) | ((with_reducible refine gate_callee (f := 13) rfl ?_); refine goesL_ (some 26) rfl rfl Try.func13 (by kernel_rfl) rfl #[.int .u32 t138] rfl (by (try simp only [List.map_toArray, List.map_cons, List.map_nil]); first | done | rfl | (simp only [List.length_drop, List.length_take]; rfl)) ?_; (with_reducible refine (word_ID.calls t138 t139 t140 _ A6.out).mono ?_); rintro e w' ⟨rfl, ⟨nd, rfl⟩⟩; refine ⟨_, rfl, ?_⟩))
        go_ret
        exact ⟨by first | rfl | (simp; done) | (simp [*]; done), by repeat (first | exact Drawn0.refl _ | apply Drawn0.step)⟩
      · replace c9 := Bool.eq_false_iff.mpr c9
        subst c9
        have H1 : (if a1 ≥ 1 then (if (t140 == (decide (a1 ≤ 2147483647))) = true then (if t140 = true then (if t139 = a1 then ((treadwheellaw1_known.f k).bind fun t141 => (some t141)) else (some false)) else ((treadwheellaw1_known.f k).bind fun t142 => (some t142))) else (some false)) else (if (t140 == false) = true then (if t140 = true then (if t139 = a1 then ((treadwheellaw1_known.f k).bind fun t143 => (some t143)) else (some false)) else ((treadwheellaw1_known.f k).bind fun t144 => (some t144))) else (some false))) = some r := by rw [if_neg (show ¬ (false = true) by decide)] at H; exact H
        clear H
        have H := H1
        clear H1
        by_cases c10 : a1 ≥ 1
        · rw [if_pos c10] at H
          have c10b0 : decide (1 ≤ a1) = true := decide_eq_true c10
          clear c10
          by_cases c11 : (t140 == (decide (a1 ≤ 2147483647))) = true
          · rw [if_pos c11] at H
            have c11b0 : (t140 == (decide (a1 ≤ 2147483647))) = true := c11
            (try (have c11b1 : decide (t140 = (decide (a1 ≤ 2147483647))) = true := by simpa using c11))
            (try (have c11b2 : (t140 == (decide (a1 ≤ 2147483647))) = true := by simpa using c11))
            clear c11
            by_cases c12 : t140 = true
            · subst c12
              have H1 : (if t139 = a1 then ((treadwheellaw1_known.f k).bind fun t141 => (some t141)) else (some false)) = some r := by rw [if_pos rfl] at H; exact H
              clear H
              have H := H1
              clear H1
              by_cases c13 : t139 = a1
              · rw [if_pos c13] at H
                have c13b0 : (t139 == a1) = true := beq_iff_eq.mpr c13
                have c13b1 : (t139 != a1) = false := bne_eq_false_iff_eq.mpr c13
                clear c13
                replace H := Option.bind_eq_some_iff.mp H
                obtain ⟨t141, A140, H⟩ := H
                replace H : (some t141) = some r := H
                have A14 := Aside0.mk A140
                clear A140
                obtain rfl := Option.some.inj H
                go_enter Try.func4, Try.ntmps4
                go_wp2_with (first | ((with_reducible refine gate_callee (f := 11) rfl ?_); refine goesL_ (some 14) rfl rfl Try.func11 (by kernel_rfl) rfl #[.int .u32 a0] rfl (by (try simp only [List.map_toArray, List.map_cons, List.map_nil]); first | done | rfl | (simp only [List.length_drop, List.length_take]; rfl)) ?_; (with_reducible refine (word_Num.calls a0 t134 true _ A3.out).mono ?_); rintro e w' ⟨rfl, ⟨nd, rfl⟩⟩; refine ⟨_, rfl, ?_⟩) | ((with_reducible refine gate_callee (f := 13) rfl ?_); refine goesL_ (some 19) rfl rfl Try.func13 (by kernel_rfl) rfl #[.int .u32 a0] rfl (by (try simp only [List.map_toArray, List.map_cons, List.map_nil]); first | done | rfl | (simp only [List.length_drop, List.length_take]; rfl)) ?_; (with_reducible refine (word_ID.calls a0 t136 false _ A4.out).mono ?_); rintro e w' ⟨rfl, ⟨nd, rfl⟩⟩; refine ⟨_, rfl, ?_⟩) | ((with_reducible refine gate_callee (f := 14) rfl ?_); refine goesL_ (some 23) rfl rfl Try.func14 (by kernel_rfl) rfl #[.int .i64 a1] rfl (by (try simp only [List.map_toArray, List.map_cons, List.map_nil]); first | done | rfl | (simp only [List.length_drop, List.length_take]; rfl)) ?_; (with_reducible refine (word_Oop.calls a1 t138 _ A5.out).mono ?_); rintro e w' ⟨rfl, ⟨nd, rfl⟩⟩; refine ⟨_, rfl, ?_⟩) | ((with_reducible refine gate_callee (f := 13) rfl ?_); refine goesL_ (some 26) rfl rfl Try.func13 (by kernel_rfl) rfl #[.int .u32 t138] rfl (by (try simp only [List.map_toArray, List.map_cons, List.map_nil]); first | done | rfl | (simp only [List.length_drop, List.length_take]; rfl)) ?_; (with_reducible refine (word_ID.calls t138 t139 true _ A6.out).mono ?_); rintro e w' ⟨rfl, ⟨nd, rfl⟩⟩; refine ⟨_, rfl, ?_⟩) | (go_at_call 12; (with_reducible refine (treadwheellaw1_known.calls k  t141 _ A14.out).mono ?_); rintro e w' ⟨rfl, ⟨nd, rfl⟩⟩))
                go_ret
                exact ⟨by first | rfl | (simp; done) | (simp [*]; done), by repeat (first | exact Drawn0.refl _ | apply Drawn0.step)⟩
              · rw [if_neg c13] at H
                have c13b0 : (t139 == a1) = false := beq_eq_false_iff_ne.mpr c13
                have c13b1 : (t139 != a1) = true := bne_iff_ne.mpr c13
                obtain rfl := Option.some.inj H
                go_enter Try.func4, Try.ntmps4
                go_wp2_with (first | ((with_reducible refine gate_callee (f := 11) rfl ?_); refine goesL_ (some 14) rfl rfl Try.func11 (by kernel_rfl) rfl #[.int .u32 a0] rfl (by (try simp only [List.map_toArray, List.map_cons, List.map_nil]); first | done | rfl | (simp only [List.length_drop, List.length_take]; rfl)) ?_; (with_reducible refine (word_Num.calls a0 t134 true _ A3.out).mono ?_); rintro e w' ⟨rfl, ⟨nd, rfl⟩⟩; refine ⟨_, rfl, ?_⟩) | ((with_reducible refine gate_callee (f := 13) rfl ?_); refine goesL_ (some 19) rfl rfl Try.func13 (by kernel_rfl) rfl #[.int .u32 a0] rfl (by (try simp only [List.map_toArray, List.map_cons, List.map_nil]); first | done | rfl | (simp only [List.length_drop, List.length_take]; rfl)) ?_; (with_reducible refine (word_ID.calls a0 t136 false _ A4.out).mono ?_); rintro e w' ⟨rfl, ⟨nd, rfl⟩⟩; refine ⟨_, rfl, ?_⟩) | ((with_reducible refine gate_callee (f := 14) rfl ?_); refine goesL_ (some 23) rfl rfl Try.func14 (by kernel_rfl) rfl #[.int .i64 a1] rfl (by (try simp only [List.map_toArray, List.map_cons, List.map_nil]); first | done | rfl | (simp only [List.length_drop, List.length_take]; rfl)) ?_; (with_reducible refine (word_Oop.calls a1 t138 _ A5.out).mono ?_); rintro e w' ⟨rfl, ⟨nd, rfl⟩⟩; refine ⟨_, rfl, ?_⟩) | ((with_reducible refine gate_callee (f := 13) rfl ?_); refine goesL_ (some 26) rfl rfl Try.func13 (by kernel_rfl) rfl #[.int .u32 t138] rfl (by (try simp only [List.map_toArray, List.map_cons, List.map_nil]); first | done | rfl | (simp only [List.length_drop, List.length_take]; rfl)) ?_; (with_reducible refine (word_ID.calls t138 t139 true _ A6.out).mono ?_); rintro e w' ⟨rfl, ⟨nd, rfl⟩⟩; refine ⟨_, rfl, ?_⟩))
                go_ret
                exact ⟨by first | rfl | (simp; done) | (simp [*]; done), by repeat (first | exact Drawn0.refl _ | apply Drawn0.step)⟩
            · replace c12 := Bool.eq_false_iff.mpr c12
              subst c12
              have H1 : ((treadwheellaw1_known.f k).bind fun t142 => (some t142)) = some r := by rw [if_neg (show ¬ (false = true) by decide)] at H; exact H
              clear H
              have H := H1
              clear H1
              replace H := Option.bind_eq_some_iff.mp H
              obtain ⟨t142, A150, H⟩ := H
              replace H : (some t142) = some r := H
              have A15 := Aside0.mk A150
              clear A150
              obtain rfl := Option.some.inj H
              go_enter Try.func4, Try.ntmps4
              go_wp2_with (first | ((with_reducible refine gate_callee (f := 11) rfl ?_); refine goesL_ (some 14) rfl rfl Try.func11 (by kernel_rfl) rfl #[.int .u32 a0] rfl (by (try simp only [List.map_toArray, List.map_cons, List.map_nil]); first | done | rfl | (simp only [List.length_drop, List.length_take]; rfl)) ?_; (with_reducible refine (word_Num.calls a0 t134 true _ A3.out).mono ?_); rintro e w' ⟨rfl, ⟨nd, rfl⟩⟩; refine ⟨_, rfl, ?_⟩) | ((with_reducible refine gate_callee (f := 13) rfl ?_); refine goesL_ (some 19) rfl rfl Try.func13 (by kernel_rfl) rfl #[.int .u32 a0] rfl (by (try simp only [List.map_toArray, List.map_cons, List.map_nil]); first | done | rfl | (simp only [List.length_drop, List.length_take]; rfl)) ?_; (with_reducible refine (word_ID.calls a0 t136 false _ A4.out).mono ?_); rintro e w' ⟨rfl, ⟨nd, rfl⟩⟩; refine ⟨_, rfl, ?_⟩) | ((with_reducible refine gate_callee (f := 14) rfl ?_); refine goesL_ (some 23) rfl rfl Try.func14 (by kernel_rfl) rfl #[.int .i64 a1] rfl (by (try simp only [List.map_toArray, List.map_cons, List.map_nil]); first | done | rfl | (simp only [List.length_drop, List.length_take]; rfl)) ?_; (with_reducible refine (word_Oop.calls a1 t138 _ A5.out).mono ?_); rintro e w' ⟨rfl, ⟨nd, rfl⟩⟩; refine ⟨_, rfl, ?_⟩) | ((with_reducible refine gate_callee (f := 13) rfl ?_); refine goesL_ (some 26) rfl rfl Try.func13 (by kernel_rfl) rfl #[.int .u32 t138] rfl (by (try simp only [List.map_toArray, List.map_cons, List.map_nil]); first | done | rfl | (simp only [List.length_drop, List.length_take]; rfl)) ?_; (with_reducible refine (word_ID.calls t138 t139 false _ A6.out).mono ?_); rintro e w' ⟨rfl, ⟨nd, rfl⟩⟩; refine ⟨_, rfl, ?_⟩) | (go_at_call 12; (with_reducible refine (treadwheellaw1_known.calls k  t142 _ A15.out).mono ?_); rintro e w' ⟨rfl, ⟨nd, rfl⟩⟩))
              go_ret
              exact ⟨by first | rfl | (simp; done) | (simp [*]; done), by repeat (first | exact Drawn0.refl _ | apply Drawn0.step)⟩
          · rw [if_neg c11] at H
            have c11b0 : (t140 == (decide (a1 ≤ 2147483647))) = false := by simpa using c11
            (try (have c11b1 : decide (t140 = (decide (a1 ≤ 2147483647))) = false := by simpa using c11))
            (try (have c11b2 : (t140 == (decide (a1 ≤ 2147483647))) = false := by simpa using c11))
            (try (have c11b3 : ¬ (t140 = (decide (a1 ≤ 2147483647))) := by simpa using c11))
            clear c11
            obtain rfl := Option.some.inj H
            go_enter Try.func4, Try.ntmps4
            go_wp2_with (first | ((with_reducible refine gate_callee (f := 11) rfl ?_); refine goesL_ (some 14) rfl rfl Try.func11 (by kernel_rfl) rfl #[.int .u32 a0] rfl (by (try simp only [List.map_toArray, List.map_cons, List.map_nil]); first | done | rfl | (simp only [List.length_drop, List.length_take]; rfl)) ?_; (with_reducible refine (word_Num.calls a0 t134 true _ A3.out).mono ?_); rintro e w' ⟨rfl, ⟨nd, rfl⟩⟩; refine ⟨_, rfl, ?_⟩) | ((with_reducible refine gate_callee (f := 13) rfl ?_); refine goesL_ (some 19) rfl rfl Try.func13 (by kernel_rfl) rfl #[.int .u32 a0] rfl (by (try simp only [List.map_toArray, List.map_cons, List.map_nil]); first | done | rfl | (simp only [List.length_drop, List.length_take]; rfl)) ?_; (with_reducible refine (word_ID.calls a0 t136 false _ A4.out).mono ?_); rintro e w' ⟨rfl, ⟨nd, rfl⟩⟩; refine ⟨_, rfl, ?_⟩) | ((with_reducible refine gate_callee (f := 14) rfl ?_); refine goesL_ (some 23) rfl rfl Try.func14 (by kernel_rfl) rfl #[.int .i64 a1] rfl (by (try simp only [List.map_toArray, List.map_cons, List.map_nil]); first | done | rfl | (simp only [List.length_drop, List.length_take]; rfl)) ?_; (with_reducible refine (word_Oop.calls a1 t138 _ A5.out).mono ?_); rintro e w' ⟨rfl, ⟨nd, rfl⟩⟩; refine ⟨_, rfl, ?_⟩) | ((with_reducible refine gate_callee (f := 13) rfl ?_); refine goesL_ (some 26) rfl rfl Try.func13 (by kernel_rfl) rfl #[.int .u32 t138] rfl (by (try simp only [List.map_toArray, List.map_cons, List.map_nil]); first | done | rfl | (simp only [List.length_drop, List.length_take]; rfl)) ?_; (with_reducible refine (word_ID.calls t138 t139 t140 _ A6.out).mono ?_); rintro e w' ⟨rfl, ⟨nd, rfl⟩⟩; refine ⟨_, rfl, ?_⟩))
            go_ret
            exact ⟨by first | rfl | (simp; done) | (simp [*]; done), by repeat (first | exact Drawn0.refl _ | apply Drawn0.step)⟩
        · rw [if_neg c10] at H
          have c10b0 : decide (1 ≤ a1) = false := decide_eq_false c10
          clear c10
          by_cases c16 : (t140 == false) = true
          · rw [if_pos c16] at H
            have c16b0 : (t140 == false) = true := c16
            (try (have c16b1 : decide (t140 = false) = true := by simpa using c16))
            (try (have c16b2 : (t140 == false) = true := by simpa using c16))
            clear c16
            by_cases c17 : t140 = true
            · subst c17
              have H1 : (if t139 = a1 then ((treadwheellaw1_known.f k).bind fun t143 => (some t143)) else (some false)) = some r := by rw [if_pos rfl] at H; exact H
              clear H
              have H := H1
              clear H1
              by_cases c18 : t139 = a1
              · rw [if_pos c18] at H
                have c18b0 : (t139 == a1) = true := beq_iff_eq.mpr c18
                have c18b1 : (t139 != a1) = false := bne_eq_false_iff_eq.mpr c18
                clear c18
                replace H := Option.bind_eq_some_iff.mp H
                obtain ⟨t143, A190, H⟩ := H
                replace H : (some t143) = some r := H
                have A19 := Aside0.mk A190
                clear A190
                obtain rfl := Option.some.inj H
                go_enter Try.func4, Try.ntmps4
                go_wp2_with (first | ((with_reducible refine gate_callee (f := 11) rfl ?_); refine goesL_ (some 14) rfl rfl Try.func11 (by kernel_rfl) rfl #[.int .u32 a0] rfl (by (try simp only [List.map_toArray, List.map_cons, List.map_nil]); first | done | rfl | (simp only [List.length_drop, List.length_take]; rfl)) ?_; (with_reducible refine (word_Num.calls a0 t134 true _ A3.out).mono ?_); rintro e w' ⟨rfl, ⟨nd, rfl⟩⟩; refine ⟨_, rfl, ?_⟩) | ((with_reducible refine gate_callee (f := 13) rfl ?_); refine goesL_ (some 19) rfl rfl Try.func13 (by kernel_rfl) rfl #[.int .u32 a0] rfl (by (try simp only [List.map_toArray, List.map_cons, List.map_nil]); first | done | rfl | (simp only [List.length_drop, List.length_take]; rfl)) ?_; (with_reducible refine (word_ID.calls a0 t136 false _ A4.out).mono ?_); rintro e w' ⟨rfl, ⟨nd, rfl⟩⟩; refine ⟨_, rfl, ?_⟩) | ((with_reducible refine gate_callee (f := 14) rfl ?_); refine goesL_ (some 23) rfl rfl Try.func14 (by kernel_rfl) rfl #[.int .i64 a1] rfl (by (try simp only [List.map_toArray, List.map_cons, List.map_nil]); first | done | rfl | (simp only [List.length_drop, List.length_take]; rfl)) ?_; (with_reducible refine (word_Oop.calls a1 t138 _ A5.out).mono ?_); rintro e w' ⟨rfl, ⟨nd, rfl⟩⟩; refine ⟨_, rfl, ?_⟩) | ((with_reducible refine gate_callee (f := 13) rfl ?_); refine goesL_ (some 26) rfl rfl Try.func13 (by kernel_rfl) rfl #[.int .u32 t138] rfl (by (try simp only [List.map_toArray, List.map_cons, List.map_nil]); first | done | rfl | (simp only [List.length_drop, List.length_take]; rfl)) ?_; (with_reducible refine (word_ID.calls t138 t139 true _ A6.out).mono ?_); rintro e w' ⟨rfl, ⟨nd, rfl⟩⟩; refine ⟨_, rfl, ?_⟩) | (go_at_call 12; (with_reducible refine (treadwheellaw1_known.calls k  t143 _ A19.out).mono ?_); rintro e w' ⟨rfl, ⟨nd, rfl⟩⟩))
                go_ret
                exact ⟨by first | rfl | (simp; done) | (simp [*]; done), by repeat (first | exact Drawn0.refl _ | apply Drawn0.step)⟩
              · rw [if_neg c18] at H
                have c18b0 : (t139 == a1) = false := beq_eq_false_iff_ne.mpr c18
                have c18b1 : (t139 != a1) = true := bne_iff_ne.mpr c18
                obtain rfl := Option.some.inj H
                go_enter Try.func4, Try.ntmps4
                go_wp2_with (first | ((with_reducible refine gate_callee (f := 11) rfl ?_); refine goesL_ (some 14) rfl rfl Try.func11 (by kernel_rfl) rfl #[.int .u32 a0] rfl (by (try simp only [List.map_toArray, List.map_cons, List.map_nil]); first | done | rfl | (simp only [List.length_drop, List.length_take]; rfl)) ?_; (with_reducible refine (word_Num.calls a0 t134 true _ A3.out).mono ?_); rintro e w' ⟨rfl, ⟨nd, rfl⟩⟩; refine ⟨_, rfl, ?_⟩) | ((with_reducible refine gate_callee (f := 13) rfl ?_); refine goesL_ (some 19) rfl rfl Try.func13 (by kernel_rfl) rfl #[.int .u32 a0] rfl (by (try simp only [List.map_toArray, List.map_cons, List.map_nil]); first | done | rfl | (simp only [List.length_drop, List.length_take]; rfl)) ?_; (with_reducible refine (word_ID.calls a0 t136 false _ A4.out).mono ?_); rintro e w' ⟨rfl, ⟨nd, rfl⟩⟩; refine ⟨_, rfl, ?_⟩) | ((with_reducible refine gate_callee (f := 14) rfl ?_); refine goesL_ (some 23) rfl rfl Try.func14 (by kernel_rfl) rfl #[.int .i64 a1] rfl (by (try simp only [List.map_toArray, List.map_cons, List.map_nil]); first | done | rfl | (simp only [List.length_drop, List.length_take]; rfl)) ?_; (with_reducible refine (word_Oop.calls a1 t138 _ A5.out).mono ?_); rintro e w' ⟨rfl, ⟨nd, rfl⟩⟩; refine ⟨_, rfl, ?_⟩) | ((with_reducible refine gate_callee (f := 13) rfl ?_); refine goesL_ (some 26) rfl rfl Try.func13 (by kernel_rfl) rfl #[.int .u32 t138] rfl (by (try simp only [List.map_toArray, List.map_cons, List.map_nil]); first | done | rfl | (simp only [List.length_drop, List.length_take]; rfl)) ?_; (with_reducible refine (word_ID.calls t138 t139 true _ A6.out).mono ?_); rintro e w' ⟨rfl, ⟨nd, rfl⟩⟩; refine ⟨_, rfl, ?_⟩))
                go_ret
                exact ⟨by first | rfl | (simp; done) | (simp [*]; done), by repeat (first | exact Drawn0.refl _ | apply Drawn0.step)⟩
            · replace c17 := Bool.eq_false_iff.mpr c17
              subst c17
              have H1 : ((treadwheellaw1_known.f k).bind fun t144 => (some t144)) = some r := by rw [if_neg (show ¬ (false = true) by decide)] at H; exact H
              clear H
              have H := H1
              clear H1
              replace H := Option.bind_eq_some_iff.mp H
              obtain ⟨t144, A200, H⟩ := H
              replace H : (some t144) = some r := H
              have A20 := Aside0.mk A200
              clear A200
              obtain rfl := Option.some.inj H
              go_enter Try.func4, Try.ntmps4
              go_wp2_with (first | ((with_reducible refine gate_callee (f := 11) rfl ?_); refine goesL_ (some 14) rfl rfl Try.func11 (by kernel_rfl) rfl #[.int .u32 a0] rfl (by (try simp only [List.map_toArray, List.map_cons, List.map_nil]); first | done | rfl | (simp only [List.length_drop, List.length_take]; rfl)) ?_; (with_reducible refine (word_Num.calls a0 t134 true _ A3.out).mono ?_); rintro e w' ⟨rfl, ⟨nd, rfl⟩⟩; refine ⟨_, rfl, ?_⟩) | ((with_reducible refine gate_callee (f := 13) rfl ?_); refine goesL_ (some 19) rfl rfl Try.func13 (by kernel_rfl) rfl #[.int .u32 a0] rfl (by (try simp only [List.map_toArray, List.map_cons, List.map_nil]); first | done | rfl | (simp only [List.length_drop, List.length_take]; rfl)) ?_; (with_reducible refine (word_ID.calls a0 t136 false _ A4.out).mono ?_); rintro e w' ⟨rfl, ⟨nd, rfl⟩⟩; refine ⟨_, rfl, ?_⟩) | ((with_reducible refine gate_callee (f := 14) rfl ?_); refine goesL_ (some 23) rfl rfl Try.func14 (by kernel_rfl) rfl #[.int .i64 a1] rfl (by (try simp only [List.map_toArray, List.map_cons, List.map_nil]); first | done | rfl | (simp only [List.length_drop, List.length_take]; rfl)) ?_; (with_reducible refine (word_Oop.calls a1 t138 _ A5.out).mono ?_); rintro e w' ⟨rfl, ⟨nd, rfl⟩⟩; refine ⟨_, rfl, ?_⟩) | ((with_reducible refine gate_callee (f := 13) rfl ?_); refine goesL_ (some 26) rfl rfl Try.func13 (by kernel_rfl) rfl #[.int .u32 t138] rfl (by (try simp only [List.map_toArray, List.map_cons, List.map_nil]); first | done | rfl | (simp only [List.length_drop, List.length_take]; rfl)) ?_; (with_reducible refine (word_ID.calls t138 t139 false _ A6.out).mono ?_); rintro e w' ⟨rfl, ⟨nd, rfl⟩⟩; refine ⟨_, rfl, ?_⟩) | (go_at_call 12; (with_reducible refine (treadwheellaw1_known.calls k  t144 _ A20.out).mono ?_); rintro e w' ⟨rfl, ⟨nd, rfl⟩⟩))
              go_ret
              exact ⟨by first | rfl | (simp; done) | (simp [*]; done), by repeat (first | exact Drawn0.refl _ | apply Drawn0.step)⟩
          · rw [if_neg c16] at H
            have c16b0 : (t140 == false) = false := by simpa using c16
            (try (have c16b1 : decide (t140 = false) = false := by simpa using c16))
            (try (have c16b2 : (t140 == false) = false := by simpa using c16))
            (try (have c16b3 : ¬ (t140 = false) := by simpa using c16))
            clear c16
            obtain rfl := Option.some.inj H
            go_enter Try.func4, Try.ntmps4
            go_wp2_with (first | ((with_reducible refine gate_callee (f := 11) rfl ?_); refine goesL_ (some 14) rfl rfl Try.func11 (by kernel_rfl) rfl #[.int .u32 a0] rfl (by (try simp only [List.map_toArray, List.map_cons, List.map_nil]); first | done | rfl | (simp only [List.length_drop, List.length_take]; rfl)) ?_; (with_reducible refine (word_Num.calls a0 t134 true _ A3.out).mono ?_); rintro e w' ⟨rfl, ⟨nd, rfl⟩⟩; refine ⟨_, rfl, ?_⟩) | ((with_reducible refine gate_callee (f := 13) rfl ?_); refine goesL_ (some 19) rfl rfl Try.func13 (by kernel_rfl) rfl #[.int .u32 a0] rfl (by (try simp only [List.map_toArray, List.map_cons, List.map_nil]); first | done | rfl | (simp only [List.length_drop, List.length_take]; rfl)) ?_; (with_reducible refine (word_ID.calls a0 t136 false _ A4.out).mono ?_); rintro e w' ⟨rfl, ⟨nd, rfl⟩⟩; refine ⟨_, rfl, ?_⟩) | ((with_reducible refine gate_callee (f := 14) rfl ?_); refine goesL_ (some 23) rfl rfl Try.func14 (by kernel_rfl) rfl #[.int .i64 a1] rfl (by (try simp only [List.map_toArray, List.map_cons, List.map_nil]); first | done | rfl | (simp only [List.length_drop, List.length_take]; rfl)) ?_; (with_reducible refine (word_Oop.calls a1 t138 _ A5.out).mono ?_); rintro e w' ⟨rfl, ⟨nd, rfl⟩⟩; refine ⟨_, rfl, ?_⟩) | ((with_reducible refine gate_callee (f := 13) rfl ?_); refine goesL_ (some 26) rfl rfl Try.func13 (by kernel_rfl) rfl #[.int .u32 t138] rfl (by (try simp only [List.map_toArray, List.map_cons, List.map_nil]); first | done | rfl | (simp only [List.length_drop, List.length_take]; rfl)) ?_; (with_reducible refine (word_ID.calls t138 t139 t140 _ A6.out).mono ?_); rintro e w' ⟨rfl, ⟨nd, rfl⟩⟩; refine ⟨_, rfl, ?_⟩))
            go_ret
            exact ⟨by first | rfl | (simp; done) | (simp [*]; done), by repeat (first | exact Drawn0.refl _ | apply Drawn0.step)⟩
    · rw [if_neg c8] at H
      have c8b0 : (true == (a0 != 0)) = false := by simpa using c8
      (try (have c8b1 : decide (true = (a0 != 0)) = false := by simpa using c8))
      (try (have c8b2 : (true == (a0 != 0)) = false := by simpa using c8))
      (try (have c8b3 : ¬ (true = (a0 != 0)) := by simpa using c8))
      clear c8
      obtain rfl := Option.some.inj H
      go_enter Try.func4, Try.ntmps4
      go_wp2_with (first | ((with_reducible refine gate_callee (f := 11) rfl ?_); refine goesL_ (some 14) rfl rfl Try.func11 (by kernel_rfl) rfl #[.int .u32 a0] rfl (by (try simp only [List.map_toArray, List.map_cons, List.map_nil]); first | done | rfl | (simp only [List.length_drop, List.length_take]; rfl)) ?_; (with_reducible refine (word_Num.calls a0 t134 true _ A3.out).mono ?_); rintro e w' ⟨rfl, ⟨nd, rfl⟩⟩; refine ⟨_, rfl, ?_⟩) | ((with_reducible refine gate_callee (f := 13) rfl ?_); refine goesL_ (some 19) rfl rfl Try.func13 (by kernel_rfl) rfl #[.int .u32 a0] rfl (by (try simp only [List.map_toArray, List.map_cons, List.map_nil]); first | done | rfl | (simp only [List.length_drop, List.length_take]; rfl)) ?_; (with_reducible refine (word_ID.calls a0 t136 t137 _ A4.out).mono ?_); rintro e w' ⟨rfl, ⟨nd, rfl⟩⟩; refine ⟨_, rfl, ?_⟩) | ((with_reducible refine gate_callee (f := 14) rfl ?_); refine goesL_ (some 23) rfl rfl Try.func14 (by kernel_rfl) rfl #[.int .i64 a1] rfl (by (try simp only [List.map_toArray, List.map_cons, List.map_nil]); first | done | rfl | (simp only [List.length_drop, List.length_take]; rfl)) ?_; (with_reducible refine (word_Oop.calls a1 t138 _ A5.out).mono ?_); rintro e w' ⟨rfl, ⟨nd, rfl⟩⟩; refine ⟨_, rfl, ?_⟩) | ((with_reducible refine gate_callee (f := 13) rfl ?_); refine goesL_ (some 26) rfl rfl Try.func13 (by kernel_rfl) rfl #[.int .u32 t138] rfl (by (try simp only [List.map_toArray, List.map_cons, List.map_nil]); first | done | rfl | (simp only [List.length_drop, List.length_take]; rfl)) ?_; (with_reducible refine (word_ID.calls t138 t139 t140 _ A6.out).mono ?_); rintro e w' ⟨rfl, ⟨nd, rfl⟩⟩; refine ⟨_, rfl, ?_⟩))
      go_ret
      exact ⟨by first | rfl | (simp; done) | (simp [*]; done), by repeat (first | exact Drawn0.refl _ | apply Drawn0.step)⟩
  · replace c7 := Bool.eq_false_iff.mpr c7
    subst c7
    have H1 : (if (t137 == (a0 != 0)) = true then (if t137 = true then ((word_Oop.f t136).bind fun t145 => (if t145 = a0 then (if a1 ≥ 1 then (if (t140 == (decide (a1 ≤ 2147483647))) = true then (if t140 = true then (if t139 = a1 then ((treadwheellaw1_known.f k).bind fun t146 => (some t146)) else (some false)) else ((treadwheellaw1_known.f k).bind fun t147 => (some t147))) else (some false)) else (if (t140 == false) = true then (if t140 = true then (if t139 = a1 then ((treadwheellaw1_known.f k).bind fun t148 => (some t148)) else (some false)) else ((treadwheellaw1_known.f k).bind fun t149 => (some t149))) else (some false))) else (some false))) else (if a1 ≥ 1 then (if (t140 == (decide (a1 ≤ 2147483647))) = true then (if t140 = true then (if t139 = a1 then ((treadwheellaw1_known.f k).bind fun t150 => (some t150)) else (some false)) else ((treadwheellaw1_known.f k).bind fun t151 => (some t151))) else (some false)) else (if (t140 == false) = true then (if t140 = true then (if t139 = a1 then ((treadwheellaw1_known.f k).bind fun t152 => (some t152)) else (some false)) else ((treadwheellaw1_known.f k).bind fun t153 => (some t153))) else (some false)))) else (some false)) = some r := by rw [if_neg (show ¬ (false = true) by decide)] at H; exact H
    clear H
    have H := H1
    clear H1
    by_cases c21 : (t137 == (a0 != 0)) = true
    · rw [if_pos c21] at H
      have c21b0 : (t137 == (a0 != 0)) = true := c21
      (try (have c21b1 : decide (t137 = (a0 != 0)) = true := by simpa using c21))
      (try (have c21b2 : (t137 == (a0 != 0)) = true := by simpa using c21))
      clear c21
      by_cases c22 : t137 = true
      · subst c22
        have H1 : ((word_Oop.f t136).bind fun t145 => (if t145 = a0 then (if a1 ≥ 1 then (if (t140 == (decide (a1 ≤ 2147483647))) = true then (if t140 = true then (if t139 = a1 then ((treadwheellaw1_known.f k).bind fun t146 => (some t146)) else (some false)) else ((treadwheellaw1_known.f k).bind fun t147 => (some t147))) else (some false)) else (if (t140 == false) = true then (if t140 = true then (if t139 = a1 then ((treadwheellaw1_known.f k).bind fun t148 => (some t148)) else (some false)) else ((treadwheellaw1_known.f k).bind fun t149 => (some t149))) else (some false))) else (some false))) = some r := by rw [if_pos rfl] at H; exact H
        clear H
        have H := H1
        clear H1
        replace H := Option.bind_eq_some_iff.mp H
        obtain ⟨t145, A230, H⟩ := H
        replace H : (if t145 = a0 then (if a1 ≥ 1 then (if (t140 == (decide (a1 ≤ 2147483647))) = true then (if t140 = true then (if t139 = a1 then ((treadwheellaw1_known.f k).bind fun t146 => (some t146)) else (some false)) else ((treadwheellaw1_known.f k).bind fun t147 => (some t147))) else (some false)) else (if (t140 == false) = true then (if t140 = true then (if t139 = a1 then ((treadwheellaw1_known.f k).bind fun t148 => (some t148)) else (some false)) else ((treadwheellaw1_known.f k).bind fun t149 => (some t149))) else (some false))) else (some false)) = some r := H
        have A23 := Aside0.mk A230
        clear A230
        by_cases c24 : t145 = a0
        · rw [if_pos c24] at H
          have c24b0 : (t145 == a0) = true := beq_iff_eq.mpr c24
          have c24b1 : (t145 != a0) = false := bne_eq_false_iff_eq.mpr c24
          clear c24
          by_cases c25 : a1 ≥ 1
          · rw [if_pos c25] at H
            have c25b0 : decide (1 ≤ a1) = true := decide_eq_true c25
            clear c25
            by_cases c26 : (t140 == (decide (a1 ≤ 2147483647))) = true
            · rw [if_pos c26] at H
              have c26b0 : (t140 == (decide (a1 ≤ 2147483647))) = true := c26
              (try (have c26b1 : decide (t140 = (decide (a1 ≤ 2147483647))) = true := by simpa using c26))
              (try (have c26b2 : (t140 == (decide (a1 ≤ 2147483647))) = true := by simpa using c26))
              clear c26
              by_cases c27 : t140 = true
              · subst c27
                have H1 : (if t139 = a1 then ((treadwheellaw1_known.f k).bind fun t146 => (some t146)) else (some false)) = some r := by rw [if_pos rfl] at H; exact H
                clear H
                have H := H1
                clear H1
                by_cases c28 : t139 = a1
                · rw [if_pos c28] at H
                  have c28b0 : (t139 == a1) = true := beq_iff_eq.mpr c28
                  have c28b1 : (t139 != a1) = false := bne_eq_false_iff_eq.mpr c28
                  clear c28
                  replace H := Option.bind_eq_some_iff.mp H
                  obtain ⟨t146, A290, H⟩ := H
                  replace H : (some t146) = some r := H
                  have A29 := Aside0.mk A290
                  clear A290
                  obtain rfl := Option.some.inj H
                  go_enter Try.func4, Try.ntmps4
                  go_wp2_with (first | ((with_reducible refine gate_callee (f := 11) rfl ?_); refine goesL_ (some 14) rfl rfl Try.func11 (by kernel_rfl) rfl #[.int .u32 a0] rfl (by (try simp only [List.map_toArray, List.map_cons, List.map_nil]); first | done | rfl | (simp only [List.length_drop, List.length_take]; rfl)) ?_; (with_reducible refine (word_Num.calls a0 t134 false _ A3.out).mono ?_); rintro e w' ⟨rfl, ⟨nd, rfl⟩⟩; refine ⟨_, rfl, ?_⟩) | ((with_reducible refine gate_callee (f := 13) rfl ?_); refine goesL_ (some 19) rfl rfl Try.func13 (by kernel_rfl) rfl #[.int .u32 a0] rfl (by (try simp only [List.map_toArray, List.map_cons, List.map_nil]); first | done | rfl | (simp only [List.length_drop, List.length_take]; rfl)) ?_; (with_reducible refine (word_ID.calls a0 t136 true _ A4.out).mono ?_); rintro e w' ⟨rfl, ⟨nd, rfl⟩⟩; refine ⟨_, rfl, ?_⟩) | ((with_reducible refine gate_callee (f := 14) rfl ?_); refine goesL_ (some 23) rfl rfl Try.func14 (by kernel_rfl) rfl #[.int .i64 a1] rfl (by (try simp only [List.map_toArray, List.map_cons, List.map_nil]); first | done | rfl | (simp only [List.length_drop, List.length_take]; rfl)) ?_; (with_reducible refine (word_Oop.calls a1 t138 _ A5.out).mono ?_); rintro e w' ⟨rfl, ⟨nd, rfl⟩⟩; refine ⟨_, rfl, ?_⟩) | ((with_reducible refine gate_callee (f := 13) rfl ?_); refine goesL_ (some 26) rfl rfl Try.func13 (by kernel_rfl) rfl #[.int .u32 t138] rfl (by (try simp only [List.map_toArray, List.map_cons, List.map_nil]); first | done | rfl | (simp only [List.length_drop, List.length_take]; rfl)) ?_; (with_reducible refine (word_ID.calls t138 t139 true _ A6.out).mono ?_); rintro e w' ⟨rfl, ⟨nd, rfl⟩⟩; refine ⟨_, rfl, ?_⟩) | (go_at_call 14; (with_reducible refine (word_Oop.calls t136 t145 _ A23.out).mono ?_); rintro e w' ⟨rfl, ⟨nd, rfl⟩⟩) | (go_at_call 12; (with_reducible refine (treadwheellaw1_known.calls k  t146 _ A29.out).mono ?_); rintro e w' ⟨rfl, ⟨nd, rfl⟩⟩))
                  go_ret
                  exact ⟨by first | rfl | (simp; done) | (simp [*]; done), by repeat (first | exact Drawn0.refl _ | apply Drawn0.step)⟩
                · rw [if_neg c28] at H
                  have c28b0 : (t139 == a1) = false := beq_eq_false_iff_ne.mpr c28
                  have c28b1 : (t139 != a1) = true := bne_iff_ne.mpr c28
                  obtain rfl := Option.some.inj H
                  go_enter Try.func4, Try.ntmps4
                  go_wp2_with (first | ((with_reducible refine gate_callee (f := 11) rfl ?_); refine goesL_ (some 14) rfl rfl Try.func11 (by kernel_rfl) rfl #[.int .u32 a0] rfl (by (try simp only [List.map_toArray, List.map_cons, List.map_nil]); first | done | rfl | (simp only [List.length_drop, List.length_take]; rfl)) ?_; (with_reducible refine (word_Num.calls a0 t134 false _ A3.out).mono ?_); rintro e w' ⟨rfl, ⟨nd, rfl⟩⟩; refine ⟨_, rfl, ?_⟩) | ((with_reducible refine gate_callee (f := 13) rfl ?_); refine goesL_ (some 19) rfl rfl Try.func13 (by kernel_rfl) rfl #[.int .u32 a0] rfl (by (try simp only [List.map_toArray, List.map_cons, List.map_nil]); first | done | rfl | (simp only [List.length_drop, List.length_take]; rfl)) ?_; (with_reducible refine (word_ID.calls a0 t136 true _ A4.out).mono ?_); rintro e w' ⟨rfl, ⟨nd, rfl⟩⟩; refine ⟨_, rfl, ?_⟩) | ((with_reducible refine gate_callee (f := 14) rfl ?_); refine goesL_ (some 23) rfl rfl Try.func14 (by kernel_rfl) rfl #[.int .i64 a1] rfl (by (try simp only [List.map_toArray, List.map_cons, List.map_nil]); first | done | rfl | (simp only [List.length_drop, List.length_take]; rfl)) ?_; (with_reducible refine (word_Oop.calls a1 t138 _ A5.out).mono ?_); rintro e w' ⟨rfl, ⟨nd, rfl⟩⟩; refine ⟨_, rfl, ?_⟩) | ((with_reducible refine gate_callee (f := 13) rfl ?_); refine goesL_ (some 26) rfl rfl Try.func13 (by kernel_rfl) rfl #[.int .u32 t138] rfl (by (try simp only [List.map_toArray, List.map_cons, List.map_nil]); first | done | rfl | (simp only [List.length_drop, List.length_take]; rfl)) ?_; (with_reducible refine (word_ID.calls t138 t139 true _ A6.out).mono ?_); rintro e w' ⟨rfl, ⟨nd, rfl⟩⟩; refine ⟨_, rfl, ?_⟩) | (go_at_call 14; (with_reducible refine (word_Oop.calls t136 t145 _ A23.out).mono ?_); rintro e w' ⟨rfl, ⟨nd, rfl⟩⟩))
                  go_ret
                  exact ⟨by first | rfl | (simp; done) | (simp [*]; done), by repeat (first | exact Drawn0.refl _ | apply Drawn0.step)⟩
              · replace c27 := Bool.eq_false_iff.mpr c27
                subst c27
                have H1 : ((treadwheellaw1_known.f k).bind fun t147 => (some t147)) = some r := by rw [if_neg (show ¬ (false = true) by decide)] at H; exact H
                clear H
                have H := H1
                clear H1
                replace H := Option.bind_eq_some_iff.mp H
                obtain ⟨t147, A300, H⟩ := H
                replace H : (some t147) = some r := H
                have A30 := Aside0.mk A300
                clear A300
                obtain rfl := Option.some.inj H
                go_enter Try.func4, Try.ntmps4
                go_wp2_with (first | ((with_reducible refine gate_callee (f := 11) rfl ?_); refine goesL_ (some 14) rfl rfl Try.func11 (by kernel_rfl) rfl #[.int .u32 a0] rfl (by (try simp only [List.map_toArray, List.map_cons, List.map_nil]); first | done | rfl | (simp only [List.length_drop, List.length_take]; rfl)) ?_; (with_reducible refine (word_Num.calls a0 t134 false _ A3.out).mono ?_); rintro e w' ⟨rfl, ⟨nd, rfl⟩⟩; refine ⟨_, rfl, ?_⟩) | ((with_reducible refine gate_callee (f := 13) rfl ?_); refine goesL_ (some 19) rfl rfl Try.func13 (by kernel_rfl) rfl #[.int .u32 a0] rfl (by (try simp only [List.map_toArray, List.map_cons, List.map_nil]); first | done | rfl | (simp only [List.length_drop, List.length_take]; rfl)) ?_; (with_reducible refine (word_ID.calls a0 t136 true _ A4.out).mono ?_); rintro e w' ⟨rfl, ⟨nd, rfl⟩⟩; refine ⟨_, rfl, ?_⟩) | ((with_reducible refine gate_callee (f := 14) rfl ?_); refine goesL_ (some 23) rfl rfl Try.func14 (by kernel_rfl) rfl #[.int .i64 a1] rfl (by (try simp only [List.map_toArray, List.map_cons, List.map_nil]); first | done | rfl | (simp only [List.length_drop, List.length_take]; rfl)) ?_; (with_reducible refine (word_Oop.calls a1 t138 _ A5.out).mono ?_); rintro e w' ⟨rfl, ⟨nd, rfl⟩⟩; refine ⟨_, rfl, ?_⟩) | ((with_reducible refine gate_callee (f := 13) rfl ?_); refine goesL_ (some 26) rfl rfl Try.func13 (by kernel_rfl) rfl #[.int .u32 t138] rfl (by (try simp only [List.map_toArray, List.map_cons, List.map_nil]); first | done | rfl | (simp only [List.length_drop, List.length_take]; rfl)) ?_; (with_reducible refine (word_ID.calls t138 t139 false _ A6.out).mono ?_); rintro e w' ⟨rfl, ⟨nd, rfl⟩⟩; refine ⟨_, rfl, ?_⟩) | (go_at_call 14; (with_reducible refine (word_Oop.calls t136 t145 _ A23.out).mono ?_); rintro e w' ⟨rfl, ⟨nd, rfl⟩⟩) | (go_at_call 12; (with_reducible refine (treadwheellaw1_known.calls k  t147 _ A30.out).mono ?_); rintro e w' ⟨rfl, ⟨nd, rfl⟩⟩))
                go_ret
                exact ⟨by first | rfl | (simp; done) | (simp [*]; done), by repeat (first | exact Drawn0.refl _ | apply Drawn0.step)⟩
            · rw [if_neg c26] at H
              have c26b0 : (t140 == (decide (a1 ≤ 2147483647))) = false := by simpa using c26
              (try (have c26b1 : decide (t140 = (decide (a1 ≤ 2147483647))) = false := by simpa using c26))
              (try (have c26b2 : (t140 == (decide (a1 ≤ 2147483647))) = false := by simpa using c26))
              (try (have c26b3 : ¬ (t140 = (decide (a1 ≤ 2147483647))) := by simpa using c26))
              clear c26
              obtain rfl := Option.some.inj H
              go_enter Try.func4, Try.ntmps4
              go_wp2_with (first | ((with_reducible refine gate_callee (f := 11) rfl ?_); refine goesL_ (some 14) rfl rfl Try.func11 (by kernel_rfl) rfl #[.int .u32 a0] rfl (by (try simp only [List.map_toArray, List.map_cons, List.map_nil]); first | done | rfl | (simp only [List.length_drop, List.length_take]; rfl)) ?_; (with_reducible refine (word_Num.calls a0 t134 false _ A3.out).mono ?_); rintro e w' ⟨rfl, ⟨nd, rfl⟩⟩; refine ⟨_, rfl, ?_⟩) | ((with_reducible refine gate_callee (f := 13) rfl ?_); refine goesL_ (some 19) rfl rfl Try.func13 (by kernel_rfl) rfl #[.int .u32 a0] rfl (by (try simp only [List.map_toArray, List.map_cons, List.map_nil]); first | done | rfl | (simp only [List.length_drop, List.length_take]; rfl)) ?_; (with_reducible refine (word_ID.calls a0 t136 true _ A4.out).mono ?_); rintro e w' ⟨rfl, ⟨nd, rfl⟩⟩; refine ⟨_, rfl, ?_⟩) | ((with_reducible refine gate_callee (f := 14) rfl ?_); refine goesL_ (some 23) rfl rfl Try.func14 (by kernel_rfl) rfl #[.int .i64 a1] rfl (by (try simp only [List.map_toArray, List.map_cons, List.map_nil]); first | done | rfl | (simp only [List.length_drop, List.length_take]; rfl)) ?_; (with_reducible refine (word_Oop.calls a1 t138 _ A5.out).mono ?_); rintro e w' ⟨rfl, ⟨nd, rfl⟩⟩; refine ⟨_, rfl, ?_⟩) | ((with_reducible refine gate_callee (f := 13) rfl ?_); refine goesL_ (some 26) rfl rfl Try.func13 (by kernel_rfl) rfl #[.int .u32 t138] rfl (by (try simp only [List.map_toArray, List.map_cons, List.map_nil]); first | done | rfl | (simp only [List.length_drop, List.length_take]; rfl)) ?_; (with_reducible refine (word_ID.calls t138 t139 t140 _ A6.out).mono ?_); rintro e w' ⟨rfl, ⟨nd, rfl⟩⟩; refine ⟨_, rfl, ?_⟩) | (go_at_call 14; (with_reducible refine (word_Oop.calls t136 t145 _ A23.out).mono ?_); rintro e w' ⟨rfl, ⟨nd, rfl⟩⟩))
              go_ret
              exact ⟨by first | rfl | (simp; done) | (simp [*]; done), by repeat (first | exact Drawn0.refl _ | apply Drawn0.step)⟩
          · rw [if_neg c25] at H
            have c25b0 : decide (1 ≤ a1) = false := decide_eq_false c25
            clear c25
            by_cases c31 : (t140 == false) = true
            · rw [if_pos c31] at H
              have c31b0 : (t140 == false) = true := c31
              (try (have c31b1 : decide (t140 = false) = true := by simpa using c31))
              (try (have c31b2 : (t140 == false) = true := by simpa using c31))
              clear c31
              by_cases c32 : t140 = true
              · subst c32
                have H1 : (if t139 = a1 then ((treadwheellaw1_known.f k).bind fun t148 => (some t148)) else (some false)) = some r := by rw [if_pos rfl] at H; exact H
                clear H
                have H := H1
                clear H1
                by_cases c33 : t139 = a1
                · rw [if_pos c33] at H
                  have c33b0 : (t139 == a1) = true := beq_iff_eq.mpr c33
                  have c33b1 : (t139 != a1) = false := bne_eq_false_iff_eq.mpr c33
                  clear c33
                  replace H := Option.bind_eq_some_iff.mp H
                  obtain ⟨t148, A340, H⟩ := H
                  replace H : (some t148) = some r := H
                  have A34 := Aside0.mk A340
                  clear A340
                  obtain rfl := Option.some.inj H
                  go_enter Try.func4, Try.ntmps4
                  go_wp2_with (first | ((with_reducible refine gate_callee (f := 11) rfl ?_); refine goesL_ (some 14) rfl rfl Try.func11 (by kernel_rfl) rfl #[.int .u32 a0] rfl (by (try simp only [List.map_toArray, List.map_cons, List.map_nil]); first | done | rfl | (simp only [List.length_drop, List.length_take]; rfl)) ?_; (with_reducible refine (word_Num.calls a0 t134 false _ A3.out).mono ?_); rintro e w' ⟨rfl, ⟨nd, rfl⟩⟩; refine ⟨_, rfl, ?_⟩) | ((with_reducible refine gate_callee (f := 13) rfl ?_); refine goesL_ (some 19) rfl rfl Try.func13 (by kernel_rfl) rfl #[.int .u32 a0] rfl (by (try simp only [List.map_toArray, List.map_cons, List.map_nil]); first | done | rfl | (simp only [List.length_drop, List.length_take]; rfl)) ?_; (with_reducible refine (word_ID.calls a0 t136 true _ A4.out).mono ?_); rintro e w' ⟨rfl, ⟨nd, rfl⟩⟩; refine ⟨_, rfl, ?_⟩) | ((with_reducible refine gate_callee (f := 14) rfl ?_); refine goesL_ (some 23) rfl rfl Try.func14 (by kernel_rfl) rfl #[.int .i64 a1] rfl (by (try simp only [List.map_toArray, List.map_cons, List.map_nil]); first | done | rfl | (simp only [List.length_drop, List.length_take]; rfl)) ?_; (with_reducible refine (word_Oop.calls a1 t138 _ A5.out).mono ?_); rintro e w' ⟨rfl, ⟨nd, rfl⟩⟩; refine ⟨_, rfl, ?_⟩) | ((with_reducible refine gate_callee (f := 13) rfl ?_); refine goesL_ (some 26) rfl rfl Try.func13 (by kernel_rfl) rfl #[.int .u32 t138] rfl (by (try simp only [List.map_toArray, List.map_cons, List.map_nil]); first | done | rfl | (simp only [List.length_drop, List.length_take]; rfl)) ?_; (with_reducible refine (word_ID.calls t138 t139 true _ A6.out).mono ?_); rintro e w' ⟨rfl, ⟨nd, rfl⟩⟩; refine ⟨_, rfl, ?_⟩) | (go_at_call 14; (with_reducible refine (word_Oop.calls t136 t145 _ A23.out).mono ?_); rintro e w' ⟨rfl, ⟨nd, rfl⟩⟩) | (go_at_call 12; (with_reducible refine (treadwheellaw1_known.calls k  t148 _ A34.out).mono ?_); rintro e w' ⟨rfl, ⟨nd, rfl⟩⟩))
                  go_ret
                  exact ⟨by first | rfl | (simp; done) | (simp [*]; done), by repeat (first | exact Drawn0.refl _ | apply Drawn0.step)⟩
                · rw [if_neg c33] at H
                  have c33b0 : (t139 == a1) = false := beq_eq_false_iff_ne.mpr c33
                  have c33b1 : (t139 != a1) = true := bne_iff_ne.mpr c33
                  obtain rfl := Option.some.inj H
                  go_enter Try.func4, Try.ntmps4
                  go_wp2_with (first | ((with_reducible refine gate_callee (f := 11) rfl ?_); refine goesL_ (some 14) rfl rfl Try.func11 (by kernel_rfl) rfl #[.int .u32 a0] rfl (by (try simp only [List.map_toArray, List.map_cons, List.map_nil]); first | done | rfl | (simp only [List.length_drop, List.length_take]; rfl)) ?_; (with_reducible refine (word_Num.calls a0 t134 false _ A3.out).mono ?_); rintro e w' ⟨rfl, ⟨nd, rfl⟩⟩; refine ⟨_, rfl, ?_⟩) | ((with_reducible refine gate_callee (f := 13) rfl ?_); refine goesL_ (some 19) rfl rfl Try.func13 (by kernel_rfl) rfl #[.int .u32 a0] rfl (by (try simp only [List.map_toArray, List.map_cons, List.map_nil]); first | done | rfl | (simp only [List.length_drop, List.length_take]; rfl)) ?_; (with_reducible refine (word_ID.calls a0 t136 true _ A4.out).mono ?_); rintro e w' ⟨rfl, ⟨nd, rfl⟩⟩; refine ⟨_, rfl, ?_⟩) | ((with_reducible refine gate_callee (f := 14) rfl ?_); refine goesL_ (some 23) rfl rfl Try.func14 (by kernel_rfl) rfl #[.int .i64 a1] rfl (by (try simp only [List.map_toArray, List.map_cons, List.map_nil]); first | done | rfl | (simp only [List.length_drop, List.length_take]; rfl)) ?_; (with_reducible refine (word_Oop.calls a1 t138 _ A5.out).mono ?_); rintro e w' ⟨rfl, ⟨nd, rfl⟩⟩; refine ⟨_, rfl, ?_⟩) | ((with_reducible refine gate_callee (f := 13) rfl ?_); refine goesL_ (some 26) rfl rfl Try.func13 (by kernel_rfl) rfl #[.int .u32 t138] rfl (by (try simp only [List.map_toArray, List.map_cons, List.map_nil]); first | done | rfl | (simp only [List.length_drop, List.length_take]; rfl)) ?_; (with_reducible refine (word_ID.calls t138 t139 true _ A6.out).mono ?_); rintro e w' ⟨rfl, ⟨nd, rfl⟩⟩; refine ⟨_, rfl, ?_⟩) | (go_at_call 14; (with_reducible refine (word_Oop.calls t136 t145 _ A23.out).mono ?_); rintro e w' ⟨rfl, ⟨nd, rfl⟩⟩))
                  go_ret
                  exact ⟨by first | rfl | (simp; done) | (simp [*]; done), by repeat (first | exact Drawn0.refl _ | apply Drawn0.step)⟩
              · replace c32 := Bool.eq_false_iff.mpr c32
                subst c32
                have H1 : ((treadwheellaw1_known.f k).bind fun t149 => (some t149)) = some r := by rw [if_neg (show ¬ (false = true) by decide)] at H; exact H
                clear H
                have H := H1
                clear H1
                replace H := Option.bind_eq_some_iff.mp H
                obtain ⟨t149, A350, H⟩ := H
                replace H : (some t149) = some r := H
                have A35 := Aside0.mk A350
                clear A350
                obtain rfl := Option.some.inj H
                go_enter Try.func4, Try.ntmps4
                go_wp2_with (first | ((with_reducible refine gate_callee (f := 11) rfl ?_); refine goesL_ (some 14) rfl rfl Try.func11 (by kernel_rfl) rfl #[.int .u32 a0] rfl (by (try simp only [List.map_toArray, List.map_cons, List.map_nil]); first | done | rfl | (simp only [List.length_drop, List.length_take]; rfl)) ?_; (with_reducible refine (word_Num.calls a0 t134 false _ A3.out).mono ?_); rintro e w' ⟨rfl, ⟨nd, rfl⟩⟩; refine ⟨_, rfl, ?_⟩) | ((with_reducible refine gate_callee (f := 13) rfl ?_); refine goesL_ (some 19) rfl rfl Try.func13 (by kernel_rfl) rfl #[.int .u32 a0] rfl (by (try simp only [List.map_toArray, List.map_cons, List.map_nil]); first | done | rfl | (simp only [List.length_drop, List.length_take]; rfl)) ?_; (with_reducible refine (word_ID.calls a0 t136 true _ A4.out).mono ?_); rintro e w' ⟨rfl, ⟨nd, rfl⟩⟩; refine ⟨_, rfl, ?_⟩) | ((with_reducible refine gate_callee (f := 14) rfl ?_); refine goesL_ (some 23) rfl rfl Try.func14 (by kernel_rfl) rfl #[.int .i64 a1] rfl (by (try simp only [List.map_toArray, List.map_cons, List.map_nil]); first | done | rfl | (simp only [List.length_drop, List.length_take]; rfl)) ?_; (with_reducible refine (word_Oop.calls a1 t138 _ A5.out).mono ?_); rintro e w' ⟨rfl, ⟨nd, rfl⟩⟩; refine ⟨_, rfl, ?_⟩) | ((with_reducible refine gate_callee (f := 13) rfl ?_); refine goesL_ (some 26) rfl rfl Try.func13 (by kernel_rfl) rfl #[.int .u32 t138] rfl (by (try simp only [List.map_toArray, List.map_cons, List.map_nil]); first | done | rfl | (simp only [List.length_drop, List.length_take]; rfl)) ?_; (with_reducible refine (word_ID.calls t138 t139 false _ A6.out).mono ?_); rintro e w' ⟨rfl, ⟨nd, rfl⟩⟩; refine ⟨_, rfl, ?_⟩) | (go_at_call 14; (with_reducible refine (word_Oop.calls t136 t145 _ A23.out).mono ?_); rintro e w' ⟨rfl, ⟨nd, rfl⟩⟩) | (go_at_call 12; (with_reducible refine (treadwheellaw1_known.calls k  t149 _ A35.out).mono ?_); rintro e w' ⟨rfl, ⟨nd, rfl⟩⟩))
                go_ret
                exact ⟨by first | rfl | (simp; done) | (simp [*]; done), by repeat (first | exact Drawn0.refl _ | apply Drawn0.step)⟩
            · rw [if_neg c31] at H
              have c31b0 : (t140 == false) = false := by simpa using c31
              (try (have c31b1 : decide (t140 = false) = false := by simpa using c31))
              (try (have c31b2 : (t140 == false) = false := by simpa using c31))
              (try (have c31b3 : ¬ (t140 = false) := by simpa using c31))
              clear c31
              obtain rfl := Option.some.inj H
              go_enter Try.func4, Try.ntmps4
              go_wp2_with (first | ((with_reducible refine gate_callee (f := 11) rfl ?_); refine goesL_ (some 14) rfl rfl Try.func11 (by kernel_rfl) rfl #[.int .u32 a0] rfl (by (try simp only [List.map_toArray, List.map_cons, List.map_nil]); first | done | rfl | (simp only [List.length_drop, List.length_take]; rfl)) ?_; (with_reducible refine (word_Num.calls a0 t134 false _ A3.out).mono ?_); rintro e w' ⟨rfl, ⟨nd, rfl⟩⟩; refine ⟨_, rfl, ?_⟩) | ((with_reducible refine gate_callee (f := 13) rfl ?_); refine goesL_ (some 19) rfl rfl Try.func13 (by kernel_rfl) rfl #[.int .u32 a0] rfl (by (try simp only [List.map_toArray, List.map_cons, List.map_nil]); first | done | rfl | (simp only [List.length_drop, List.length_take]; rfl)) ?_; (with_reducible refine (word_ID.calls a0 t136 true _ A4.out).mono ?_); rintro e w' ⟨rfl, ⟨nd, rfl⟩⟩; refine ⟨_, rfl, ?_⟩) | ((with_reducible refine gate_callee (f := 14) rfl ?_); refine goesL_ (some 23) rfl rfl Try.func14 (by kernel_rfl) rfl #[.int .i64 a1] rfl (by (try simp only [List.map_toArray, List.map_cons, List.map_nil]); first | done | rfl | (simp only [List.length_drop, List.length_take]; rfl)) ?_; (with_reducible refine (word_Oop.calls a1 t138 _ A5.out).mono ?_); rintro e w' ⟨rfl, ⟨nd, rfl⟩⟩; refine ⟨_, rfl, ?_⟩) | ((with_reducible refine gate_callee (f := 13) rfl ?_); refine goesL_ (some 26) rfl rfl Try.func13 (by kernel_rfl) rfl #[.int .u32 t138] rfl (by (try simp only [List.map_toArray, List.map_cons, List.map_nil]); first | done | rfl | (simp only [List.length_drop, List.length_take]; rfl)) ?_; (with_reducible refine (word_ID.calls t138 t139 t140 _ A6.out).mono ?_); rintro e w' ⟨rfl, ⟨nd, rfl⟩⟩; refine ⟨_, rfl, ?_⟩) | (go_at_call 14; (with_reducible refine (word_Oop.calls t136 t145 _ A23.out).mono ?_); rintro e w' ⟨rfl, ⟨nd, rfl⟩⟩))
              go_ret
              exact ⟨by first | rfl | (simp; done) | (simp [*]; done), by repeat (first | exact Drawn0.refl _ | apply Drawn0.step)⟩
        · rw [if_neg c24] at H
          have c24b0 : (t145 == a0) = false := beq_eq_false_iff_ne.mpr c24
          have c24b1 : (t145 != a0) = true := bne_iff_ne.mpr c24
          obtain rfl := Option.some.inj H
          go_enter Try.func4, Try.ntmps4
          go_wp2_with (first | ((with_reducible refine gate_callee (f := 11) rfl ?_); refine goesL_ (some 14) rfl rfl Try.func11 (by kernel_rfl) rfl #[.int .u32 a0] rfl (by (try simp only [List.map_toArray, List.map_cons, List.map_nil]); first | done | rfl | (simp only [List.length_drop, List.length_take]; rfl)) ?_; (with_reducible refine (word_Num.calls a0 t134 false _ A3.out).mono ?_); rintro e w' ⟨rfl, ⟨nd, rfl⟩⟩; refine ⟨_, rfl, ?_⟩) | ((with_reducible refine gate_callee (f := 13) rfl ?_); refine goesL_ (some 19) rfl rfl Try.func13 (by kernel_rfl) rfl #[.int .u32 a0] rfl (by (try simp only [List.map_toArray, List.map_cons, List.map_nil]); first | done | rfl | (simp only [List.length_drop, List.length_take]; rfl)) ?_; (with_reducible refine (word_ID.calls a0 t136 true _ A4.out).mono ?_); rintro e w' ⟨rfl, ⟨nd, rfl⟩⟩; refine ⟨_, rfl, ?_⟩) | ((with_reducible refine gate_callee (f := 14) rfl ?_); refine goesL_ (some 23) rfl rfl Try.func14 (by kernel_rfl) rfl #[.int .i64 a1] rfl (by (try simp only [List.map_toArray, List.map_cons, List.map_nil]); first | done | rfl | (simp only [List.length_drop, List.length_take]; rfl)) ?_; (with_reducible refine (word_Oop.calls a1 t138 _ A5.out).mono ?_); rintro e w' ⟨rfl, ⟨nd, rfl⟩⟩; refine ⟨_, rfl, ?_⟩) | ((with_reducible refine gate_callee (f := 13) rfl ?_); refine goesL_ (some 26) rfl rfl Try.func13 (by kernel_rfl) rfl #[.int .u32 t138] rfl (by (try simp only [List.map_toArray, List.map_cons, List.map_nil]); first | done | rfl | (simp only [List.length_drop, List.length_take]; rfl)) ?_; (with_reducible refine (word_ID.calls t138 t139 t140 _ A6.out).mono ?_); rintro e w' ⟨rfl, ⟨nd, rfl⟩⟩; refine ⟨_, rfl, ?_⟩) | (go_at_call 14; (with_reducible refine (word_Oop.calls t136 t145 _ A23.out).mono ?_); rintro e w' ⟨rfl, ⟨nd, rfl⟩⟩))
          go_ret
          exact ⟨by first | rfl | (simp; done) | (simp [*]; done), by repeat (first | exact Drawn0.refl _ | apply Drawn0.step)⟩
      · replace c22 := Bool.eq_false_iff.mpr c22
        subst c22
        have H1 : (if a1 ≥ 1 then (if (t140 == (decide (a1 ≤ 2147483647))) = true then (if t140 = true then (if t139 = a1 then ((treadwheellaw1_known.f k).bind fun t150 => (some t150)) else (some false)) else ((treadwheellaw1_known.f k).bind fun t151 => (some t151))) else (some false)) else (if (t140 == false) = true then (if t140 = true then (if t139 = a1 then ((treadwheellaw1_known.f k).bind fun t152 => (some t152)) else (some false)) else ((treadwheellaw1_known.f k).bind fun t153 => (some t153))) else (some false))) = some r := by rw [if_neg (show ¬ (false = true) by decide)] at H; exact H
        clear H
        have H := H1
        clear H1
        by_cases c36 : a1 ≥ 1
        · rw [if_pos c36] at H
          have c36b0 : decide (1 ≤ a1) = true := decide_eq_true c36
          clear c36
          by_cases c37 : (t140 == (decide (a1 ≤ 2147483647))) = true
          · rw [if_pos c37] at H
            have c37b0 : (t140 == (decide (a1 ≤ 2147483647))) = true := c37
            (try (have c37b1 : decide (t140 = (decide (a1 ≤ 2147483647))) = true := by simpa using c37))
            (try (have c37b2 : (t140 == (decide (a1 ≤ 2147483647))) = true := by simpa using c37))
            clear c37
            by_cases c38 : t140 = true
            · subst c38
              have H1 : (if t139 = a1 then ((treadwheellaw1_known.f k).bind fun t150 => (some t150)) else (some false)) = some r := by rw [if_pos rfl] at H; exact H
              clear H
              have H := H1
              clear H1
              by_cases c39 : t139 = a1
              · rw [if_pos c39] at H
                have c39b0 : (t139 == a1) = true := beq_iff_eq.mpr c39
                have c39b1 : (t139 != a1) = false := bne_eq_false_iff_eq.mpr c39
                clear c39
                replace H := Option.bind_eq_some_iff.mp H
                obtain ⟨t150, A400, H⟩ := H
                replace H : (some t150) = some r := H
                have A40 := Aside0.mk A400
                clear A400
                obtain rfl := Option.some.inj H
                go_enter Try.func4, Try.ntmps4
                go_wp2_with (first | ((with_reducible refine gate_callee (f := 11) rfl ?_); refine goesL_ (some 14) rfl rfl Try.func11 (by kernel_rfl) rfl #[.int .u32 a0] rfl (by (try simp only [List.map_toArray, List.map_cons, List.map_nil]); first | done | rfl | (simp only [List.length_drop, List.length_take]; rfl)) ?_; (with_reducible refine (word_Num.calls a0 t134 false _ A3.out).mono ?_); rintro e w' ⟨rfl, ⟨nd, rfl⟩⟩; refine ⟨_, rfl, ?_⟩) | ((with_reducible refine gate_callee (f := 13) rfl ?_); refine goesL_ (some 19) rfl rfl Try.func13 (by kernel_rfl) rfl #[.int .u32 a0] rfl (by (try simp only [List.map_toArray, List.map_cons, List.map_nil]); first | done | rfl | (simp only [List.length_drop, List.length_take]; rfl)) ?_; (with_reducible refine (word_ID.calls a0 t136 false _ A4.out).mono ?_); rintro e w' ⟨rfl, ⟨nd, rfl⟩⟩; refine ⟨_, rfl, ?_⟩) | ((with_reducible refine gate_callee (f := 14) rfl ?_); refine goesL_ (some 23) rfl rfl Try.func14 (by kernel_rfl) rfl #[.int .i64 a1] rfl (by (try simp only [List.map_toArray, List.map_cons, List.map_nil]); first | done | rfl | (simp only [List.length_drop, List.length_take]; rfl)) ?_; (with_reducible refine (word_Oop.calls a1 t138 _ A5.out).mono ?_); rintro e w' ⟨rfl, ⟨nd, rfl⟩⟩; refine ⟨_, rfl, ?_⟩) | ((with_reducible refine gate_callee (f := 13) rfl ?_); refine goesL_ (some 26) rfl rfl Try.func13 (by kernel_rfl) rfl #[.int .u32 t138] rfl (by (try simp only [List.map_toArray, List.map_cons, List.map_nil]); first | done | rfl | (simp only [List.length_drop, List.length_take]; rfl)) ?_; (with_reducible refine (word_ID.calls t138 t139 true _ A6.out).mono ?_); rintro e w' ⟨rfl, ⟨nd, rfl⟩⟩; refine ⟨_, rfl, ?_⟩) | (go_at_call 12; (with_reducible refine (treadwheellaw1_known.calls k  t150 _ A40.out).mono ?_); rintro e w' ⟨rfl, ⟨nd, rfl⟩⟩))
                go_ret
                exact ⟨by first | rfl | (simp; done) | (simp [*]; done), by repeat (first | exact Drawn0.refl _ | apply Drawn0.step)⟩
              · rw [if_neg c39] at H
                have c39b0 : (t139 == a1) = false := beq_eq_false_iff_ne.mpr c39
                have c39b1 : (t139 != a1) = true := bne_iff_ne.mpr c39
                obtain rfl := Option.some.inj H
                go_enter Try.func4, Try.ntmps4
                go_wp2_with (first | ((with_reducible refine gate_callee (f := 11) rfl ?_); refine goesL_ (some 14) rfl rfl Try.func11 (by kernel_rfl) rfl #[.int .u32 a0] rfl (by (try simp only [List.map_toArray, List.map_cons, List.map_nil]); first | done | rfl | (simp only [List.length_drop, List.length_take]; rfl)) ?_; (with_reducible refine (word_Num.calls a0 t134 false _ A3.out).mono ?_); rintro e w' ⟨rfl, ⟨nd, rfl⟩⟩; refine ⟨_, rfl, ?_⟩) | ((with_reducible refine gate_callee (f := 13) rfl ?_); refine goesL_ (some 19) rfl rfl Try.func13 (by kernel_rfl) rfl #[.int .u32 a0] rfl (by (try simp only [List.map_toArray, List.map_cons, List.map_nil]); first | done | rfl | (simp only [List.length_drop, List.length_take]; rfl)) ?_; (with_reducible refine (word_ID.calls a0 t136 false _ A4.out).mono ?_); rintro e w' ⟨rfl, ⟨nd, rfl⟩⟩; refine ⟨_, rfl, ?_⟩) | ((with_reducible refine gate_callee (f := 14) rfl ?_); refine goesL_ (some 23) rfl rfl Try.func14 (by kernel_rfl) rfl #[.int .i64 a1] rfl (by (try simp only [List.map_toArray, List.map_cons, List.map_nil]); first | done | rfl | (simp only [List.length_drop, List.length_take]; rfl)) ?_; (with_reducible refine (word_Oop.calls a1 t138 _ A5.out).mono ?_); rintro e w' ⟨rfl, ⟨nd, rfl⟩⟩; refine ⟨_, rfl, ?_⟩) | ((with_reducible refine gate_callee (f := 13) rfl ?_); refine goesL_ (some 26) rfl rfl Try.func13 (by kernel_rfl) rfl #[.int .u32 t138] rfl (by (try simp only [List.map_toArray, List.map_cons, List.map_nil]); first | done | rfl | (simp only [List.length_drop, List.length_take]; rfl)) ?_; (with_reducible refine (word_ID.calls t138 t139 true _ A6.out).mono ?_); rintro e w' ⟨rfl, ⟨nd, rfl⟩⟩; refine ⟨_, rfl, ?_⟩))
                go_ret
                exact ⟨by first | rfl | (simp; done) | (simp [*]; done), by repeat (first | exact Drawn0.refl _ | apply Drawn0.step)⟩
            · replace c38 := Bool.eq_false_iff.mpr c38
              subst c38
              have H1 : ((treadwheellaw1_known.f k).bind fun t151 => (some t151)) = some r := by rw [if_neg (show ¬ (false = true) by decide)] at H; exact H
              clear H
              have H := H1
              clear H1
              replace H := Option.bind_eq_some_iff.mp H
              obtain ⟨t151, A410, H⟩ := H
              replace H : (some t151) = some r := H
              have A41 := Aside0.mk A410
              clear A410
              obtain rfl := Option.some.inj H
              go_enter Try.func4, Try.ntmps4
              go_wp2_with (first | ((with_reducible refine gate_callee (f := 11) rfl ?_); refine goesL_ (some 14) rfl rfl Try.func11 (by kernel_rfl) rfl #[.int .u32 a0] rfl (by (try simp only [List.map_toArray, List.map_cons, List.map_nil]); first | done | rfl | (simp only [List.length_drop, List.length_take]; rfl)) ?_; (with_reducible refine (word_Num.calls a0 t134 false _ A3.out).mono ?_); rintro e w' ⟨rfl, ⟨nd, rfl⟩⟩; refine ⟨_, rfl, ?_⟩) | ((with_reducible refine gate_callee (f := 13) rfl ?_); refine goesL_ (some 19) rfl rfl Try.func13 (by kernel_rfl) rfl #[.int .u32 a0] rfl (by (try simp only [List.map_toArray, List.map_cons, List.map_nil]); first | done | rfl | (simp only [List.length_drop, List.length_take]; rfl)) ?_; (with_reducible refine (word_ID.calls a0 t136 false _ A4.out).mono ?_); rintro e w' ⟨rfl, ⟨nd, rfl⟩⟩; refine ⟨_, rfl, ?_⟩) | ((with_reducible refine gate_callee (f := 14) rfl ?_); refine goesL_ (some 23) rfl rfl Try.func14 (by kernel_rfl) rfl #[.int .i64 a1] rfl (by (try simp only [List.map_toArray, List.map_cons, List.map_nil]); first | done | rfl | (simp only [List.length_drop, List.length_take]; rfl)) ?_; (with_reducible refine (word_Oop.calls a1 t138 _ A5.out).mono ?_); rintro e w' ⟨rfl, ⟨nd, rfl⟩⟩; refine ⟨_, rfl, ?_⟩) | ((with_reducible refine gate_callee (f := 13) rfl ?_); refine goesL_ (some 26) rfl rfl Try.func13 (by kernel_rfl) rfl #[.int .u32 t138] rfl (by (try simp only [List.map_toArray, List.map_cons, List.map_nil]); first | done | rfl | (simp only [List.length_drop, List.length_take]; rfl)) ?_; (with_reducible refine (word_ID.calls t138 t139 false _ A6.out).mono ?_); rintro e w' ⟨rfl, ⟨nd, rfl⟩⟩; refine ⟨_, rfl, ?_⟩) | (go_at_call 12; (with_reducible refine (treadwheellaw1_known.calls k  t151 _ A41.out).mono ?_); rintro e w' ⟨rfl, ⟨nd, rfl⟩⟩))
              go_ret
              exact ⟨by first | rfl | (simp; done) | (simp [*]; done), by repeat (first | exact Drawn0.refl _ | apply Drawn0.step)⟩
          · rw [if_neg c37] at H
            have c37b0 : (t140 == (decide (a1 ≤ 2147483647))) = false := by simpa using c37
            (try (have c37b1 : decide (t140 = (decide (a1 ≤ 2147483647))) = false := by simpa using c37))
            (try (have c37b2 : (t140 == (decide (a1 ≤ 2147483647))) = false := by simpa using c37))
            (try (have c37b3 : ¬ (t140 = (decide (a1 ≤ 2147483647))) := by simpa using c37))
            clear c37
            obtain rfl := Option.some.inj H
            go_enter Try.func4, Try.ntmps4
            go_wp2_with (first | ((with_reducible refine gate_callee (f := 11) rfl ?_); refine goesL_ (some 14) rfl rfl Try.func11 (by kernel_rfl) rfl #[.int .u32 a0] rfl (by (try simp only [List.map_toArray, List.map_cons, List.map_nil]); first | done | rfl | (simp only [List.length_drop, List.length_take]; rfl)) ?_; (with_reducible refine (word_Num.calls a0 t134 false _ A3.out).mono ?_); rintro e w' ⟨rfl, ⟨nd, rfl⟩⟩; refine ⟨_, rfl, ?_⟩) | ((with_reducible refine gate_callee (f := 13) rfl ?_); refine goesL_ (some 19) rfl rfl Try.func13 (by kernel_rfl) rfl #[.int .u32 a0] rfl (by (try simp only [List.map_toArray, List.map_cons, List.map_nil]); first | done | rfl | (simp only [List.length_drop, List.length_take]; rfl)) ?_; (with_reducible refine (word_ID.calls a0 t136 false _ A4.out).mono ?_); rintro e w' ⟨rfl, ⟨nd, rfl⟩⟩; refine ⟨_, rfl, ?_⟩) | ((with_reducible refine gate_callee (f := 14) rfl ?_); refine goesL_ (some 23) rfl rfl Try.func14 (by kernel_rfl) rfl #[.int .i64 a1] rfl (by (try simp only [List.map_toArray, List.map_cons, List.map_nil]); first | done | rfl | (simp only [List.length_drop, List.length_take]; rfl)) ?_; (with_reducible refine (word_Oop.calls a1 t138 _ A5.out).mono ?_); rintro e w' ⟨rfl, ⟨nd, rfl⟩⟩; refine ⟨_, rfl, ?_⟩) | ((with_reducible refine gate_callee (f := 13) rfl ?_); refine goesL_ (some 26) rfl rfl Try.func13 (by kernel_rfl) rfl #[.int .u32 t138] rfl (by (try simp only [List.map_toArray, List.map_cons, List.map_nil]); first | done | rfl | (simp only [List.length_drop, List.length_take]; rfl)) ?_; (with_reducible refine (word_ID.calls t138 t139 t140 _ A6.out).mono ?_); rintro e w' ⟨rfl, ⟨nd, rfl⟩⟩; refine ⟨_, rfl, ?_⟩))
            go_ret
            exact ⟨by first | rfl | (simp; done) | (simp [*]; done), by repeat (first | exact Drawn0.refl _ | apply Drawn0.step)⟩
        · rw [if_neg c36] at H
          have c36b0 : decide (1 ≤ a1) = false := decide_eq_false c36
          clear c36
          by_cases c42 : (t140 == false) = true
          · rw [if_pos c42] at H
            have c42b0 : (t140 == false) = true := c42
            (try (have c42b1 : decide (t140 = false) = true := by simpa using c42))
            (try (have c42b2 : (t140 == false) = true := by simpa using c42))
            clear c42
            by_cases c43 : t140 = true
            · subst c43
              have H1 : (if t139 = a1 then ((treadwheellaw1_known.f k).bind fun t152 => (some t152)) else (some false)) = some r := by rw [if_pos rfl] at H; exact H
              clear H
              have H := H1
              clear H1
              by_cases c44 : t139 = a1
              · rw [if_pos c44] at H
                have c44b0 : (t139 == a1) = true := beq_iff_eq.mpr c44
                have c44b1 : (t139 != a1) = false := bne_eq_false_iff_eq.mpr c44
                clear c44
                replace H := Option.bind_eq_some_iff.mp H
                obtain ⟨t152, A450, H⟩ := H
                replace H : (some t152) = some r := H
                have A45 := Aside0.mk A450
                clear A450
                obtain rfl := Option.some.inj H
                go_enter Try.func4, Try.ntmps4
                go_wp2_with (first | ((with_reducible refine gate_callee (f := 11) rfl ?_); refine goesL_ (some 14) rfl rfl Try.func11 (by kernel_rfl) rfl #[.int .u32 a0] rfl (by (try simp only [List.map_toArray, List.map_cons, List.map_nil]); first | done | rfl | (simp only [List.length_drop, List.length_take]; rfl)) ?_; (with_reducible refine (word_Num.calls a0 t134 false _ A3.out).mono ?_); rintro e w' ⟨rfl, ⟨nd, rfl⟩⟩; refine ⟨_, rfl, ?_⟩) | ((with_reducible refine gate_callee (f := 13) rfl ?_); refine goesL_ (some 19) rfl rfl Try.func13 (by kernel_rfl) rfl #[.int .u32 a0] rfl (by (try simp only [List.map_toArray, List.map_cons, List.map_nil]); first | done | rfl | (simp only [List.length_drop, List.length_take]; rfl)) ?_; (with_reducible refine (word_ID.calls a0 t136 false _ A4.out).mono ?_); rintro e w' ⟨rfl, ⟨nd, rfl⟩⟩; refine ⟨_, rfl, ?_⟩) | ((with_reducible refine gate_callee (f := 14) rfl ?_); refine goesL_ (some 23) rfl rfl Try.func14 (by kernel_rfl) rfl #[.int .i64 a1] rfl (by (try simp only [List.map_toArray, List.map_cons, List.map_nil]); first | done | rfl | (simp only [List.length_drop, List.length_take]; rfl)) ?_; (with_reducible refine (word_Oop.calls a1 t138 _ A5.out).mono ?_); rintro e w' ⟨rfl, ⟨nd, rfl⟩⟩; refine ⟨_, rfl, ?_⟩) | ((with_reducible refine gate_callee (f := 13) rfl ?_); refine goesL_ (some 26) rfl rfl Try.func13 (by kernel_rfl) rfl #[.int .u32 t138] rfl (by (try simp only [List.map_toArray, List.map_cons, List.map_nil]); first | done | rfl | (simp only [List.length_drop, List.length_take]; rfl)) ?_; (with_reducible refine (word_ID.calls t138 t139 true _ A6.out).mono ?_); rintro e w' ⟨rfl, ⟨nd, rfl⟩⟩; refine ⟨_, rfl, ?_⟩) | (go_at_call 12; (with_reducible refine (treadwheellaw1_known.calls k  t152 _ A45.out).mono ?_); rintro e w' ⟨rfl, ⟨nd, rfl⟩⟩))
                go_ret
                exact ⟨by first | rfl | (simp; done) | (simp [*]; done), by repeat (first | exact Drawn0.refl _ | apply Drawn0.step)⟩
              · rw [if_neg c44] at H
                have c44b0 : (t139 == a1) = false := beq_eq_false_iff_ne.mpr c44
                have c44b1 : (t139 != a1) = true := bne_iff_ne.mpr c44
                obtain rfl := Option.some.inj H
                go_enter Try.func4, Try.ntmps4
                go_wp2_with (first | ((with_reducible refine gate_callee (f := 11) rfl ?_); refine goesL_ (some 14) rfl rfl Try.func11 (by kernel_rfl) rfl #[.int .u32 a0] rfl (by (try simp only [List.map_toArray, List.map_cons, List.map_nil]); first | done | rfl | (simp only [List.length_drop, List.length_take]; rfl)) ?_; (with_reducible refine (word_Num.calls a0 t134 false _ A3.out).mono ?_); rintro e w' ⟨rfl, ⟨nd, rfl⟩⟩; refine ⟨_, rfl, ?_⟩) | ((with_reducible refine gate_callee (f := 13) rfl ?_); refine goesL_ (some 19) rfl rfl Try.func13 (by kernel_rfl) rfl #[.int .u32 a0] rfl (by (try simp only [List.map_toArray, List.map_cons, List.map_nil]); first | done | rfl | (simp only [List.length_drop, List.length_take]; rfl)) ?_; (with_reducible refine (word_ID.calls a0 t136 false _ A4.out).mono ?_); rintro e w' ⟨rfl, ⟨nd, rfl⟩⟩; refine ⟨_, rfl, ?_⟩) | ((with_reducible refine gate_callee (f := 14) rfl ?_); refine goesL_ (some 23) rfl rfl Try.func14 (by kernel_rfl) rfl #[.int .i64 a1] rfl (by (try simp only [List.map_toArray, List.map_cons, List.map_nil]); first | done | rfl | (simp only [List.length_drop, List.length_take]; rfl)) ?_; (with_reducible refine (word_Oop.calls a1 t138 _ A5.out).mono ?_); rintro e w' ⟨rfl, ⟨nd, rfl⟩⟩; refine ⟨_, rfl, ?_⟩) | ((with_reducible refine gate_callee (f := 13) rfl ?_); refine goesL_ (some 26) rfl rfl Try.func13 (by kernel_rfl) rfl #[.int .u32 t138] rfl (by (try simp only [List.map_toArray, List.map_cons, List.map_nil]); first | done | rfl | (simp only [List.length_drop, List.length_take]; rfl)) ?_; (with_reducible refine (word_ID.calls t138 t139 true _ A6.out).mono ?_); rintro e w' ⟨rfl, ⟨nd, rfl⟩⟩; refine ⟨_, rfl, ?_⟩))
                go_ret
                exact ⟨by first | rfl | (simp; done) | (simp [*]; done), by repeat (first | exact Drawn0.refl _ | apply Drawn0.step)⟩
            · replace c43 := Bool.eq_false_iff.mpr c43
              subst c43
              have H1 : ((treadwheellaw1_known.f k).bind fun t153 => (some t153)) = some r := by rw [if_neg (show ¬ (false = true) by decide)] at H; exact H
              clear H
              have H := H1
              clear H1
              replace H := Option.bind_eq_some_iff.mp H
              obtain ⟨t153, A460, H⟩ := H
              replace H : (some t153) = some r := H
              have A46 := Aside0.mk A460
              clear A460
              obtain rfl := Option.some.inj H
              go_enter Try.func4, Try.ntmps4
              go_wp2_with (first | ((with_reducible refine gate_callee (f := 11) rfl ?_); refine goesL_ (some 14) rfl rfl Try.func11 (by kernel_rfl) rfl #[.int .u32 a0] rfl (by (try simp only [List.map_toArray, List.map_cons, List.map_nil]); first | done | rfl | (simp only [List.length_drop, List.length_take]; rfl)) ?_; (with_reducible refine (word_Num.calls a0 t134 false _ A3.out).mono ?_); rintro e w' ⟨rfl, ⟨nd, rfl⟩⟩; refine ⟨_, rfl, ?_⟩) | ((with_reducible refine gate_callee (f := 13) rfl ?_); refine goesL_ (some 19) rfl rfl Try.func13 (by kernel_rfl) rfl #[.int .u32 a0] rfl (by (try simp only [List.map_toArray, List.map_cons, List.map_nil]); first | done | rfl | (simp only [List.length_drop, List.length_take]; rfl)) ?_; (with_reducible refine (word_ID.calls a0 t136 false _ A4.out).mono ?_); rintro e w' ⟨rfl, ⟨nd, rfl⟩⟩; refine ⟨_, rfl, ?_⟩) | ((with_reducible refine gate_callee (f := 14) rfl ?_); refine goesL_ (some 23) rfl rfl Try.func14 (by kernel_rfl) rfl #[.int .i64 a1] rfl (by (try simp only [List.map_toArray, List.map_cons, List.map_nil]); first | done | rfl | (simp only [List.length_drop, List.length_take]; rfl)) ?_; (with_reducible refine (word_Oop.calls a1 t138 _ A5.out).mono ?_); rintro e w' ⟨rfl, ⟨nd, rfl⟩⟩; refine ⟨_, rfl, ?_⟩) | ((with_reducible refine gate_callee (f := 13) rfl ?_); refine goesL_ (some 26) rfl rfl Try.func13 (by kernel_rfl) rfl #[.int .u32 t138] rfl (by (try simp only [List.map_toArray, List.map_cons, List.map_nil]); first | done | rfl | (simp only [List.length_drop, List.length_take]; rfl)) ?_; (with_reducible refine (word_ID.calls t138 t139 false _ A6.out).mono ?_); rintro e w' ⟨rfl, ⟨nd, rfl⟩⟩; refine ⟨_, rfl, ?_⟩) | (go_at_call 12; (with_reducible refine (treadwheellaw1_known.calls k  t153 _ A46.out).mono ?_); rintro e w' ⟨rfl, ⟨nd, rfl⟩⟩))
              go_ret
              exact ⟨by first | rfl | (simp; done) | (simp [*]; done), by repeat (first | exact Drawn0.refl _ | apply Drawn0.step)⟩
          · rw [if_neg c42] at H
            have c42b0 : (t140 == false) = false := by simpa using c42
            (try (have c42b1 : decide (t140 = false) = false := by simpa using c42))
            (try (have c42b2 : (t140 == false) = false := by simpa using c42))
            (try (have c42b3 : ¬ (t140 = false) := by simpa using c42))
            clear c42
            obtain rfl := Option.some.inj H
            go_enter Try.func4, Try.ntmps4
            go_wp2_with (first | ((with_reducible refine gate_callee (f := 11) rfl ?_); refine goesL_ (some 14) rfl rfl Try.func11 (by kernel_rfl) rfl #[.int .u32 a0] rfl (by (try simp only [List.map_toArray, List.map_cons, List.map_nil]); first | done | rfl | (simp only [List.length_drop, List.length_take]; rfl)) ?_; (with_reducible refine (word_Num.calls a0 t134 false _ A3.out).mono ?_); rintro e w' ⟨rfl, ⟨nd, rfl⟩⟩; refine ⟨_, rfl, ?_⟩) | ((with_reducible refine gate_callee (f := 13) rfl ?_); refine goesL_ (some 19) rfl rfl Try.func13 (by kernel_rfl) rfl #[.int .u32 a0] rfl (by (try simp only [List.map_toArray, List.map_cons, List.map_nil]); first | done | rfl | (simp only [List.length_drop, List.length_take]; rfl)) ?_; (with_reducible refine (word_ID.calls a0 t136 false _ A4.out).mono ?_); rintro e w' ⟨rfl, ⟨nd, rfl⟩⟩; refine ⟨_, rfl, ?_⟩) | ((with_reducible refine gate_callee (f := 14) rfl ?_); refine goesL_ (some 23) rfl rfl Try.func14 (by kernel_rfl) rfl #[.int .i64 a1] rfl (by (try simp only [List.map_toArray, List.map_cons, List.map_nil]); first | done | rfl | (simp only [List.length_drop, List.length_take]; rfl)) ?_; (with_reducible refine (word_Oop.calls a1 t138 _ A5.out).mono ?_); rintro e w' ⟨rfl, ⟨nd, rfl⟩⟩; refine ⟨_, rfl, ?_⟩) | ((with_reducible refine gate_callee (f := 13) rfl ?_); refine goesL_ (some 26) rfl rfl Try.func13 (by kernel_rfl) rfl #[.int .u32 t138] rfl (by (try simp only [List.map_toArray, List.map_cons, List.map_nil]); first | done | rfl | (simp only [List.length_drop, List.length_take]; rfl)) ?_; (with_reducible refine (word_ID.calls t138 t139 t140 _ A6.out).mono ?_); rintro e w' ⟨rfl, ⟨nd, rfl⟩⟩; refine ⟨_, rfl, ?_⟩))
            go_ret
            exact ⟨by first | rfl | (simp; done) | (simp [*]; done), by repeat (first | exact Drawn0.refl _ | apply Drawn0.step)⟩
    · rw [if_neg c21] at H
      have c21b0 : (t137 == (a0 != 0)) = false := by simpa using c21
      (try (have c21b1 : decide (t137 = (a0 != 0)) = false := by simpa using c21))
      (try (have c21b2 : (t137 == (a0 != 0)) = false := by simpa using c21))
      (try (have c21b3 : ¬ (t137 = (a0 != 0)) := by simpa using c21))
      clear c21
      obtain rfl := Option.some.inj H
      go_enter Try.func4, Try.ntmps4
      go_wp2_with (first | ((with_reducible refine gate_callee (f := 11) rfl ?_); refine goesL_ (some 14) rfl rfl Try.func11 (by kernel_rfl) rfl #[.int .u32 a0] rfl (by (try simp only [List.map_toArray, List.map_cons, List.map_nil]); first | done | rfl | (simp only [List.length_drop, List.length_take]; rfl)) ?_; (with_reducible refine (word_Num.calls a0 t134 false _ A3.out).mono ?_); rintro e w' ⟨rfl, ⟨nd, rfl⟩⟩; refine ⟨_, rfl, ?_⟩) | ((with_reducible refine gate_callee (f := 13) rfl ?_); refine goesL_ (some 19) rfl rfl Try.func13 (by kernel_rfl) rfl #[.int .u32 a0] rfl (by (try simp only [List.map_toArray, List.map_cons, List.map_nil]); first | done | rfl | (simp only [List.length_drop, List.length_take]; rfl)) ?_; (with_reducible refine (word_ID.calls a0 t136 t137 _ A4.out).mono ?_); rintro e w' ⟨rfl, ⟨nd, rfl⟩⟩; refine ⟨_, rfl, ?_⟩) | ((with_reducible refine gate_callee (f := 14) rfl ?_); refine goesL_ (some 23) rfl rfl Try.func14 (by kernel_rfl) rfl #[.int .i64 a1] rfl (by (try simp only [List.map_toArray, List.map_cons, List.map_nil]); first | done | rfl | (simp only [List.length_drop, List.length_take]; rfl)) ?_; (with_reducible refine (word_Oop.calls a1 t138 _ A5.out).mono ?_); rintro e w' ⟨rfl, ⟨nd, rfl⟩⟩; refine ⟨_, rfl, ?_⟩) | ((with_reducible refine gate_callee (f := 13) rfl ?_); refine goesL_ (some 26) rfl rfl Try.func13 (by kernel_rfl) rfl #[.int .u32 t138] rfl (by (try simp only [List.map_toArray, List.map_cons, List.map_nil]); first | done | rfl | (simp only [List.length_drop, List.length_take]; rfl)) ?_; (with_reducible refine (word_ID.calls t138 t139 t140 _ A6.out).mono ?_); rintro e w' ⟨rfl, ⟨nd, rfl⟩⟩; refine ⟨_, rfl, ?_⟩))
      go_ret
      exact ⟨by first | rfl | (simp; done) | (simp [*]; done), by repeat (first | exact Drawn0.refl _ | apply Drawn0.step)⟩

/-- THE ONE PURE STATEMENT of treadwheellaw1_WordKinds: yours. -/
def treadwheellaw1_WordKinds.Pure : Prop := ∀ (a0 : Int) (a1 : Int), (Lit.int .u32 a0).wf = true → (Lit.int .i64 a1).wf = true → ∃ k, treadwheellaw1_WordKinds.f k a0 a1 = some true
theorem treadwheellaw1_WordKinds.walk (P : treadwheellaw1_WordKinds.Pure) (a0 : Int) (a1 : Int) (w : World) (w0 : (Lit.int .u32 a0).wf = true) (w1 : (Lit.int .i64 a1).wf = true) :
    Calls Try.prog 4 #[.int .u32 a0, .int .i64 a1] w fun e w' => e = .returned (.bool true) ∧ Below w.heap.size w w' := by
  obtain ⟨k, h⟩ := P a0 a1 w0 w1
  refine (treadwheellaw1_WordKinds.calls k a0 a1 true w h).mono ?_
  rintro e w' ⟨rfl, hd⟩
  exact ⟨rfl, hd.below⟩

end Go.Proofs.Ytolflgfcldhfjaa.PWordKinds

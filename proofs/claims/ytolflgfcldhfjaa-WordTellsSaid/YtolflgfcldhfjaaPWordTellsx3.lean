-- PRINTED BY print.sh 35421559b90ae4d0a3588c463048766b98c2df88dd9212a6774a882060cdf62d: not written by this session
import Derived.Test.YtolflgfcldhfjaaPWordTellsx0
import Derived.Test.YtolflgfcldhfjaaPWordTellsx1
import Derived.Test.YtolflgfcldhfjaaPWordTellsx2
namespace Go.Proofs.Ytolflgfcldhfjaa.PWordTells
open Go.RowKit Go.Proofs.YtolflgfcldhfjaaW.PrintWords Go.Proofs.YtolflgfcldhfjaaW.PrintLast Go.Proofs.YtolflgfcldhfjaaW.PrintMore
attribute [local go_sem] max2_int min2_int max_two min_two max_three min_three max_four min_four   -- for this text's walks alone
set_option linter.unusedVariables false
set_option linter.unusedSimpArgs false

/-! ### treadwheellaw1_WordTells: function 7 -/
def treadwheellaw1_WordTells.f (k : Nat) (a0 : Int) (a1 : Int) (a2 : Int) : Option (Bool) := (treadwheellaw1_one.f a0 a1).bind fun t214 => (if t214 = true then ((treadwheellaw1_one.f (wrap64 ((wrap32 (a1)) / 2)) a2).bind fun t215 => (if t215 = true then ((treadwheellaw1_two.f k a1 a2).bind fun t216 => (if t216 = true then ((treadwheellaw1_two.f k (Go.bits .or .u32 a1 1) (Go.bits .or .u32 a2 1)).bind fun t217 => (if t217 = true then ((treadwheellaw1_two.f k (Go.bits .or .u32 a1 1) (Go.bits .or .u32 (Go.bits .and .u32 a2 255) 1)).bind fun t218 => (if t218 = true then ((treadwheellaw1_two.f k (Go.bits .or .u32 (Go.bits .and .u32 a1 65535) 1) (Go.bits .or .u32 (Go.bits .and .u32 a2 65535) 1)).bind fun t219 => (if t219 = true then ((treadwheellaw1_known.f k).bind fun t220 => (some t220)) else (some false))) else (some false))) else (some false))) else (some false))) else (some false))) else (some false))
theorem treadwheellaw1_WordTells.mono : ∀ a0 a1 a2 k, LeO (treadwheellaw1_WordTells.f k a0 a1 a2) (treadwheellaw1_WordTells.f (k + 1) a0 a1 a2) := by
  intro a0 a1 a2 k
  unfold treadwheellaw1_WordTells.f
  repeat' first
      | (with_reducible exact treadwheellaw1_known.mono _)
      | (with_reducible exact treadwheellaw1_two.mono _ _ _)
      | (with_reducible exact LeO.refl _)
      | (with_reducible exact LeO.none _)
      | (with_reducible refine LeO.ite ?_ ?_)
      | (with_reducible refine LeO.bind ?_ (fun _ => ?_))
      | exact treadwheellaw1_known.mono _
      | exact treadwheellaw1_two.mono _ _ _
      | exact LeO.none _
      | refine LeO.ite ?_ ?_
      | refine LeO.bind ?_ (fun _ => ?_)
set_option maxHeartbeats 8000000 in
set_option maxRecDepth 100000 in
theorem treadwheellaw1_WordTells.calls (k : Nat) (a0 : Int) (a1 : Int) (a2 : Int) (r : Bool) (w : World) (h : treadwheellaw1_WordTells.f k a0 a1 a2 = some r) :
    Calls Try.prog 7 #[.int .i64 a0, .int .u32 a1, .int .u32 a2] w fun e w' => e = .returned (.bool r) ∧ Drawn0 w w' := by
  have H : ((treadwheellaw1_one.f a0 a1).bind fun t214 => (if t214 = true then ((treadwheellaw1_one.f (wrap64 ((wrap32 (a1)) / 2)) a2).bind fun t215 => (if t215 = true then ((treadwheellaw1_two.f k a1 a2).bind fun t216 => (if t216 = true then ((treadwheellaw1_two.f k (Go.bits .or .u32 a1 1) (Go.bits .or .u32 a2 1)).bind fun t217 => (if t217 = true then ((treadwheellaw1_two.f k (Go.bits .or .u32 a1 1) (Go.bits .or .u32 (Go.bits .and .u32 a2 255) 1)).bind fun t218 => (if t218 = true then ((treadwheellaw1_two.f k (Go.bits .or .u32 (Go.bits .and .u32 a1 65535) 1) (Go.bits .or .u32 (Go.bits .and .u32 a2 65535) 1)).bind fun t219 => (if t219 = true then ((treadwheellaw1_known.f k).bind fun t220 => (some t220)) else (some false))) else (some false))) else (some false))) else (some false))) else (some false))) else (some false))) = some r := h
  clear h
  replace H := Option.bind_eq_some_iff.mp H
  obtain ⟨t214, A40, H⟩ := H
  replace H : (if t214 = true then ((treadwheellaw1_one.f (wrap64 ((wrap32 (a1)) / 2)) a2).bind fun t215 => (if t215 = true then ((treadwheellaw1_two.f k a1 a2).bind fun t216 => (if t216 = true then ((treadwheellaw1_two.f k (Go.bits .or .u32 a1 1) (Go.bits .or .u32 a2 1)).bind fun t217 => (if t217 = true then ((treadwheellaw1_two.f k (Go.bits .or .u32 a1 1) (Go.bits .or .u32 (Go.bits .and .u32 a2 255) 1)).bind fun t218 => (if t218 = true then ((treadwheellaw1_two.f k (Go.bits .or .u32 (Go.bits .and .u32 a1 65535) 1) (Go.bits .or .u32 (Go.bits .and .u32 a2 65535) 1)).bind fun t219 => (if t219 = true then ((treadwheellaw1_known.f k).bind fun t220 => (some t220)) else (some false))) else (some false))) else (some false))) else (some false))) else (some false))) else (some false)) = some r := H
  have A4 := Aside0.mk A40
  clear A40
  by_cases c5 : t214 = true
  · subst c5
    have H1 : ((treadwheellaw1_one.f (wrap64 ((wrap32 (a1)) / 2)) a2).bind fun t215 => (if t215 = true then ((treadwheellaw1_two.f k a1 a2).bind fun t216 => (if t216 = true then ((treadwheellaw1_two.f k (Go.bits .or .u32 a1 1) (Go.bits .or .u32 a2 1)).bind fun t217 => (if t217 = true then ((treadwheellaw1_two.f k (Go.bits .or .u32 a1 1) (Go.bits .or .u32 (Go.bits .and .u32 a2 255) 1)).bind fun t218 => (if t218 = true then ((treadwheellaw1_two.f k (Go.bits .or .u32 (Go.bits .and .u32 a1 65535) 1) (Go.bits .or .u32 (Go.bits .and .u32 a2 65535) 1)).bind fun t219 => (if t219 = true then ((treadwheellaw1_known.f k).bind fun t220 => (some t220)) else (some false))) else (some false))) else (some false))) else (some false))) else (some false))) = some r := by rw [if_pos rfl] at H; exact H
    clear H
    have H := H1
    clear H1
    replace H := Option.bind_eq_some_iff.mp H
    obtain ⟨t215, A60, H⟩ := H
    replace H : (if t215 = true then ((treadwheellaw1_two.f k a1 a2).bind fun t216 => (if t216 = true then ((treadwheellaw1_two.f k (Go.bits .or .u32 a1 1) (Go.bits .or .u32 a2 1)).bind fun t217 => (if t217 = true then ((treadwheellaw1_two.f k (Go.bits .or .u32 a1 1) (Go.bits .or .u32 (Go.bits .and .u32 a2 255) 1)).bind fun t218 => (if t218 = true then ((treadwheellaw1_two.f k (Go.bits .or .u32 (Go.bits .and .u32 a1 65535) 1) (Go.bits .or .u32 (Go.bits .and .u32 a2 65535) 1)).bind fun t219 => (if t219 = true then ((treadwheellaw1_known.f k).bind fun t220 => (some t220)) else (some false))) else (some false))) else (some false))) else (some false))) else (some false)) = some r := H
    have A6 := Aside0.mk A60
    clear A60
    by_cases c7 : t215 = true
    · subst c7
      have H1 : ((treadwheellaw1_two.f k a1 a2).bind fun t216 => (if t216 = true then ((treadwheellaw1_two.f k (Go.bits .or .u32 a1 1) (Go.bits .or .u32 a2 1)).bind fun t217 => (if t217 = true then ((treadwheellaw1_two.f k (Go.bits .or .u32 a1 1) (Go.bits .or .u32 (Go.bits .and .u32 a2 255) 1)).bind fun t218 => (if t218 = true then ((treadwheellaw1_two.f k (Go.bits .or .u32 (Go.bits .and .u32 a1 65535) 1) (Go.bits .or .u32 (Go.bits .and .u32 a2 65535) 1)).bind fun t219 => (if t219 = true then ((treadwheellaw1_known.f k).bind fun t220 => (some t220)) else (some false))) else (some false))) else (some false))) else (some false))) = some r := by rw [if_pos rfl] at H; exact H
      clear H
      have H := H1
      clear H1
      replace H := Option.bind_eq_some_iff.mp H
      obtain ⟨t216, A80, H⟩ := H
      replace H : (if t216 = true then ((treadwheellaw1_two.f k (Go.bits .or .u32 a1 1) (Go.bits .or .u32 a2 1)).bind fun t217 => (if t217 = true then ((treadwheellaw1_two.f k (Go.bits .or .u32 a1 1) (Go.bits .or .u32 (Go.bits .and .u32 a2 255) 1)).bind fun t218 => (if t218 = true then ((treadwheellaw1_two.f k (Go.bits .or .u32 (Go.bits .and .u32 a1 65535) 1) (Go.bits .or .u32 (Go.bits .and .u32 a2 65535) 1)).bind fun t219 => (if t219 = true then ((treadwheellaw1_known.f k).bind fun t220 => (some t220)) else (some false))) else (some false))) else (some false))) else (some false)) = some r := H
      have A8 := Aside0.mk A80
      clear A80
      by_cases c9 : t216 = true
      · subst c9
        have H1 : ((treadwheellaw1_two.f k (Go.bits .or .u32 a1 1) (Go.bits .or .u32 a2 1)).bind fun t217 => (if t217 = true then ((treadwheellaw1_two.f k (Go.bits .or .u32 a1 1) (Go.bits .or .u32 (Go.bits .and .u32 a2 255) 1)).bind fun t218 => (if t218 = true then ((treadwheellaw1_two.f k (Go.bits .or .u32 (Go.bits .and .u32 a1 65535) 1) (Go.bits .or .u32 (Go.bits .and .u32 a2 65535) 1)).bind fun t219 => (if t219 = true then ((treadwheellaw1_known.f k).bind fun t220 => (some t220)) else (some false))) else (some false))) else (some false))) = some r := by rw [if_pos rfl] at H; exact H
        clear H
        have H := H1
        clear H1
        replace H := Option.bind_eq_some_iff.mp H
        obtain ⟨t217, A100, H⟩ := H
        replace H : (if t217 = true then ((treadwheellaw1_two.f k (Go.bits .or .u32 a1 1) (Go.bits .or .u32 (Go.bits .and .u32 a2 255) 1)).bind fun t218 => (if t218 = true then ((treadwheellaw1_two.f k (Go.bits .or .u32 (Go.bits .and .u32 a1 65535) 1) (Go.bits .or .u32 (Go.bits .and .u32 a2 65535) 1)).bind fun t219 => (if t219 = true then ((treadwheellaw1_known.f k).bind fun t220 => (some t220)) else (some false))) else (some false))) else (some false)) = some r := H
        have A10 := Aside0.mk A100
        clear A100
        by_cases c11 : t217 = true
        · subst c11
          have H1 : ((treadwheellaw1_two.f k (Go.bits .or .u32 a1 1) (Go.bits .or .u32 (Go.bits .and .u32 a2 255) 1)).bind fun t218 => (if t218 = true then ((treadwheellaw1_two.f k (Go.bits .or .u32 (Go.bits .and .u32 a1 65535) 1) (Go.bits .or .u32 (Go.bits .and .u32 a2 65535) 1)).bind fun t219 => (if t219 = true then ((treadwheellaw1_known.f k).bind fun t220 => (some t220)) else (some false))) else (some false))) = some r := by rw [if_pos rfl] at H; exact H
          clear H
          have H := H1
          clear H1
          replace H := Option.bind_eq_some_iff.mp H
          obtain ⟨t218, A120, H⟩ := H
          replace H : (if t218 = true then ((treadwheellaw1_two.f k (Go.bits .or .u32 (Go.bits .and .u32 a1 65535) 1) (Go.bits .or .u32 (Go.bits .and .u32 a2 65535) 1)).bind fun t219 => (if t219 = true then ((treadwheellaw1_known.f k).bind fun t220 => (some t220)) else (some false))) else (some false)) = some r := H
          have A12 := Aside0.mk A120
          clear A120
          by_cases c13 : t218 = true
          · subst c13
            have H1 : ((treadwheellaw1_two.f k (Go.bits .or .u32 (Go.bits .and .u32 a1 65535) 1) (Go.bits .or .u32 (Go.bits .and .u32 a2 65535) 1)).bind fun t219 => (if t219 = true then ((treadwheellaw1_known.f k).bind fun t220 => (some t220)) else (some false))) = some r := by rw [if_pos rfl] at H; exact H
            clear H
            have H := H1
            clear H1
            replace H := Option.bind_eq_some_iff.mp H
            obtain ⟨t219, A140, H⟩ := H
            replace H : (if t219 = true then ((treadwheellaw1_known.f k).bind fun t220 => (some t220)) else (some false)) = some r := H
            have A14 := Aside0.mk A140
            clear A140
            by_cases c15 : t219 = true
            · subst c15
              have H1 : ((treadwheellaw1_known.f k).bind fun t220 => (some t220)) = some r := by rw [if_pos rfl] at H; exact H
              clear H
              have H := H1
              clear H1
              replace H := Option.bind_eq_some_iff.mp H
              obtain ⟨t220, A160, H⟩ := H
              replace H : (some t220) = some r := H
              have A16 := Aside0.mk A160
              clear A160
              obtain rfl := Option.some.inj H
              go_enter Try.func7, Try.ntmps7
              go_wp2_with (first | ((with_reducible refine gate_callee (f := 17) rfl ?_); refine goesL_ (some 9) rfl rfl Try.func17 (by kernel_rfl) rfl #[.int .i64 a0, .int .u32 a1] rfl (by (try simp only [List.map_toArray, List.map_cons, List.map_nil]); first | done | rfl | (simp only [List.length_drop, List.length_take]; rfl)) ?_; (with_reducible refine (treadwheellaw1_one.calls a0 a1 true _ A4.out).mono ?_); rintro e w' ⟨rfl, ⟨nd, rfl⟩⟩; refine ⟨_, rfl, ?_⟩) | (go_at_call 17; (with_reducible refine (treadwheellaw1_one.calls (wrap64 ((wrap32 (a1)) / 2)) a2 true _ A6.out).mono ?_); rintro e w' ⟨rfl, ⟨nd, rfl⟩⟩) | (go_at_call 19; (with_reducible refine (treadwheellaw1_two.calls k a1 a2 true _ A8.out).mono ?_); rintro e w' ⟨rfl, ⟨nd, rfl⟩⟩) | (go_at_call 19; (with_reducible refine (treadwheellaw1_two.calls k (Go.bits .or .u32 a1 1) (Go.bits .or .u32 a2 1) true _ A10.out).mono ?_); rintro e w' ⟨rfl, ⟨nd, rfl⟩⟩) | (go_at_call 19; (with_reducible refine (treadwheellaw1_two.calls k (Go.bits .or .u32 a1 1) (Go.bits .or .u32 (Go.bits .and .u32 a2 255) 1) true _ A12.out).mono ?_); rintro e w' ⟨rfl, ⟨nd, rfl⟩⟩) | (go_at_call 19; (with_reducible refine (treadwheellaw1_two.calls k (Go.bits .or .u32 (Go.bits .and .u32 a1 65535) 1) (Go.bits .or .u32 (Go.bits .and .u32 a2 65535) 1) true _ A14.out).mono ?_); rintro e w' ⟨rfl, ⟨nd, rfl⟩⟩) | (go_at_call 12; (with_reducible refine (treadwheellaw1_known.calls k  t220 _ A16.out).mono ?_); rintro e w' ⟨rfl, ⟨nd, rfl⟩⟩))
              go_ret
              exact ⟨by first | rfl | (simp; done) | (simp [*]; done), by repeat (first | exact Drawn0.refl _ | apply Drawn0.step)⟩
            · replace c15 := Bool.eq_false_iff.mpr c15
              subst c15
              have H1 : (some false) = some r := by rw [if_neg (show ¬ (false = true) by decide)] at H; exact H
              clear H
              have H := H1
              clear H1
              obtain rfl := Option.some.inj H
              go_enter Try.func7, Try.ntmps7
              go_wp2_with (first | ((with_reducible refine gate_callee (f := 17) rfl ?_); refine goesL_ (some 9) rfl rfl Try.func17 (by kernel_rfl) rfl #[.int .i64 a0, .int .u32 a1] rfl (by (try simp only [List.map_toArray, List.map_cons, List.map_nil]); first | done | rfl | (simp only [List.length_drop, List.length_take]; rfl)) ?_; (with_reducible refine (treadwheellaw1_one.calls a0 a1 true _ A4.out).mono ?_); rintro e w' ⟨rfl, ⟨nd, rfl⟩⟩; refine ⟨_, rfl, ?_⟩) | (go_at_call 17; (with_reducible refine (treadwheellaw1_one.calls (wrap64 ((wrap32 (a1)) / 2)) a2 true _ A6.out).mono ?_); rintro e w' ⟨rfl, ⟨nd, rfl⟩⟩) | (go_at_call 19; (with_reducible refine (treadwheellaw1_two.calls k a1 a2 true _ A8.out).mono ?_); rintro e w' ⟨rfl, ⟨nd, rfl⟩⟩) | (go_at_call 19; (with_reducible refine (treadwheellaw1_two.calls k (Go.bits .or .u32 a1 1) (Go.bits .or .u32 a2 1) true _ A10.out).mono ?_); rintro e w' ⟨rfl, ⟨nd, rfl⟩⟩) | (go_at_call 19; (with_reducible refine (treadwheellaw1_two.calls k (Go.bits .or .u32 a1 1) (Go.bits .or .u32 (Go.bits .and .u32 a2 255) 1) true _ A12.out).mono ?_); rintro e w' ⟨rfl, ⟨nd, rfl⟩⟩) | (go_at_call 19; (with_reducible refine (treadwheellaw1_two.calls k (Go.bits .or .u32 (Go.bits .and .u32 a1 65535) 1) (Go.bits .or .u32 (Go.bits .and .u32 a2 65535) 1) false _ A14.out).mono ?_); rintro e w' ⟨rfl, ⟨nd, rfl⟩⟩))
              go_ret
              exact ⟨by first | rfl | (simp; done) | (simp [*]; done), by repeat (first | exact Drawn0.refl _ | apply Drawn0.step)⟩
          · replace c13 := Bool.eq_false_iff.mpr c13
            subst c13
            have H1 : (some false) = some r := by rw [if_neg (show ¬ (false = true) by decide)] at H; exact H
            clear H
            have H := H1
            clear H1
            obtain rfl := Option.some.inj H
            go_enter Try.func7, Try.ntmps7
            go_wp2_with (first | ((with_reducible refine gate_callee (f := 17) rfl ?_); refine goesL_ (some 9) rfl rfl Try.func17 (by kernel_rfl) rfl #[.int .i64 a0, .int .u32 a1] rfl (by (try simp only [List.map_toArray, List.map_cons, List.map_nil]); first | done | rfl | (simp only [List.length_drop, List.length_take]; rfl)) ?_; (with_reducible refine (treadwheellaw1_one.calls a0 a1 true _ A4.out).mono ?_); rintro e w' ⟨rfl, ⟨nd, rfl⟩⟩; refine ⟨_, rfl, ?_⟩) | (go_at_call 17; (with_reducible refine (treadwheellaw1_one.calls (wrap64 ((wrap32 (a1)) / 2)) a2 true _ A6.out).mono ?_); rintro e w' ⟨rfl, ⟨nd, rfl⟩⟩) | (go_at_call 19; (with_reducible refine (treadwheellaw1_two.calls k a1 a2 true _ A8.out).mono ?_); rintro e w' ⟨rfl, ⟨nd, rfl⟩⟩) | (go_at_call 19; (with_reducible refine (treadwheellaw1_two.calls k (Go.bits .or .u32 a1 1) (Go.bits .or .u32 a2 1) true _ A10.out).mono ?_); rintro e w' ⟨rfl, ⟨nd, rfl⟩⟩) | (go_at_call 19; (with_reducible refine (treadwheellaw1_two.calls k (Go.bits .or .u32 a1 1) (Go.bits .or .u32 (Go.bits .and .u32 a2 255) 1) false _ A12.out).mono ?_); rintro e w' ⟨rfl, ⟨nd, rfl⟩⟩))
            go_ret
            exact ⟨by first | rfl | (simp; done) | (simp [*]; done), by repeat (first | exact Drawn0.refl _ | apply Drawn0.step)⟩
        · replace c11 := Bool.eq_false_iff.mpr c11
          subst c11
          have H1 : (some false) = some r := by rw [if_neg (show ¬ (false = true) by decide)] at H; exact H
          clear H
          have H := H1
          clear H1
          obtain rfl := Option.some.inj H
          go_enter Try.func7, Try.ntmps7
          go_wp2_with (first | ((with_reducible refine gate_callee (f := 17) rfl ?_); refine goesL_ (some 9) rfl rfl Try.func17 (by kernel_rfl) rfl #[.int .i64 a0, .int .u32 a1] rfl (by (try simp only [List.map_toArray, List.map_cons, List.map_nil]); first | done | rfl | (simp only [List.length_drop, List.length_take]; rfl)) ?_; (with_reducible refine (treadwheellaw1_one.calls a0 a1 true _ A4.out).mono ?_); rintro e w' ⟨rfl, ⟨nd, rfl⟩⟩; refine ⟨_, rfl, ?_⟩) | (go_at_call 17; (with_reducible refine (treadwheellaw1_one.calls (wrap64 ((wrap32 (a1)) / 2)) a2 true _ A6.out).mono ?_); rintro e w' ⟨rfl, ⟨nd, rfl⟩⟩) | (go_at_call 19; (with_reducible refine (treadwheellaw1_two.calls k a1 a2 true _ A8.out).mono ?_); rintro e w' ⟨rfl, ⟨nd, rfl⟩⟩) | (go_at_call 19; (with_reducible refine (treadwheellaw1_two.calls k (Go.bits .or .u32 a1 1) (Go.bits .or .u32 a2 1) false _ A10.out).mono ?_); rintro e w' ⟨rfl, ⟨nd, rfl⟩⟩))
          go_ret
          exact ⟨by first | rfl | (simp; done) | (simp [*]; done), by repeat (first | exact Drawn0.refl _ | apply Drawn0.step)⟩
      · replace c9 := Bool.eq_false_iff.mpr c9
        subst c9
        have H1 : (some false) = some r := by rw [if_neg (show ¬ (false = true) by decide)] at H; exact H
        clear H
        have H := H1
        clear H1
        obtain rfl := Option.some.inj H
        go_enter Try.func7, Try.ntmps7
        go_wp2_with (first | ((with_reducible refine gate_callee (f := 17) rfl ?_); refine goesL_ (some 9) rfl rfl Try.func17 (by kernel_rfl) rfl #[.int .i64 a0, .int .u32 a1] rfl (by (try simp only [List.map_toArray, List.map_cons, List.map_nil]); first | done | rfl | (simp only [List.length_drop, List.length_take]; rfl)) ?_; (with_reducible refine (treadwheellaw1_one.calls a0 a1 true _ A4.out).mono ?_); rintro e w' ⟨rfl, ⟨nd, rfl⟩⟩; refine ⟨_, rfl, ?_⟩) | (go_at_call 17; (with_reducible refine (treadwheellaw1_one.calls (wrap64 ((wrap32 (a1)) / 2)) a2 true _ A6.out).mono ?_); rintro e w' ⟨rfl, ⟨nd, rfl⟩⟩) | (go_at_call 19; (with_reducible refine (treadwheellaw1_two.calls k a1 a2 false _ A8.out).mono ?_); rintro e w' ⟨rfl, ⟨nd, rfl⟩⟩))
        go_ret
        exact ⟨by first | rfl | (simp; done) | (simp [*]; done), by repeat (first | exact Drawn0.refl _ | apply Drawn0.step)⟩
    · replace c7 := Bool.eq_false_iff.mpr c7
      subst c7
      have H1 : (some false) = some r := by rw [if_neg (show ¬ (false = true) by decide)] at H; exact H
      clear H
      have H := H1
      clear H1
      obtain rfl := Option.some.inj H
      go_enter Try.func7, Try.ntmps7
      go_wp2_with (first | ((with_reducible refine gate_callee (f := 17) rfl ?_); refine goesL_ (some 9) rfl rfl Try.func17 (by kernel_rfl) rfl #[.int .i64 a0, .int .u32 a1] rfl (by (try simp only [List.map_toArray, List.map_cons, List.map_nil]); first | done | rfl | (simp only [List.length_drop, List.length_take]; rfl)) ?_; (with_reducible refine (treadwheellaw1_one.calls a0 a1 true _ A4.out).mono ?_); rintro e w' ⟨rfl, ⟨nd, rfl⟩⟩; refine ⟨_, rfl, ?_⟩) | (go_at_call 17; (with_reducible refine (treadwheellaw1_one.calls (wrap64 ((wrap32 (a1)) / 2)) a2 false _ A6.out).mono ?_); rintro e w' ⟨rfl, ⟨nd, rfl⟩⟩))
      go_ret
      exact ⟨by first | rfl | (simp; done) | (simp [*]; done), by repeat (first | exact Drawn0.refl _ | apply Drawn0.step)⟩
  · replace c5 := Bool.eq_false_iff.mpr c5
    subst c5
    have H1 : (some false) = some r := by rw [if_neg (show ¬ (false = true) by decide)] at H; exact H
    clear H
    have H := H1
    clear H1
    obtain rfl := Option.some.inj H
    go_enter Try.func7, Try.ntmps7
    go_wp2_with (first | ((with_reducible refine gate_callee (f := 17) rfl ?_); refine goesL_ (some 9) rfl rfl Try.func17 (by kernel_rfl) rfl #[.int .i64 a0, .int .u32 a1] rfl (by (try simp only [List.map_toArray, List.map_cons, List.map_nil]); first | done | rfl | (simp only [List.length_drop, List.length_take]; rfl)) ?_; (with_reducible refine (treadwheellaw1_one.calls a0 a1 false _ A4.out).mono ?_); rintro e w' ⟨rfl, ⟨nd, rfl⟩⟩; refine ⟨_, rfl, ?_⟩))
    go_ret
    exact ⟨by first | rfl | (simp; done) | (simp [*]; done), by repeat (first | exact Drawn0.refl _ | apply Drawn0.step)⟩

/-- THE ONE PURE STATEMENT of treadwheellaw1_WordTells: yours. -/
def treadwheellaw1_WordTells.Pure : Prop := ∀ (a0 : Int) (a1 : Int) (a2 : Int), (Lit.int .i64 a0).wf = true → (Lit.int .u32 a1).wf = true → (Lit.int .u32 a2).wf = true → ∃ k, treadwheellaw1_WordTells.f k a0 a1 a2 = some true
theorem treadwheellaw1_WordTells.walk (P : treadwheellaw1_WordTells.Pure) (a0 : Int) (a1 : Int) (a2 : Int) (w : World) (w0 : (Lit.int .i64 a0).wf = true) (w1 : (Lit.int .u32 a1).wf = true) (w2 : (Lit.int .u32 a2).wf = true) :
    Calls Try.prog 7 #[.int .i64 a0, .int .u32 a1, .int .u32 a2] w fun e w' => e = .returned (.bool true) ∧ Below w.heap.size w w' := by
  obtain ⟨k, h⟩ := P a0 a1 a2 w0 w1 w2
  refine (treadwheellaw1_WordTells.calls k a0 a1 a2 true w h).mono ?_
  rintro e w' ⟨rfl, hd⟩
  exact ⟨rfl, hd.below⟩

end Go.Proofs.Ytolflgfcldhfjaa.PWordTells

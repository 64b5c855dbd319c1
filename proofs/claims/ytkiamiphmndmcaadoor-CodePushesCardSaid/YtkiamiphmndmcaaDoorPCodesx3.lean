-- Written by xprint.py (a program of the prover's) over the kit's printer.
import Derived.Test.YtkiamiphmndmcaaDoorPCodesx0
namespace Go.Proofs.YtkiamiphmndmcaaDoor.PCodes
open Go.RowKit Go.Proofs.YtkiamiphmndmcaaDoorW.PrintWords Go.Proofs.YtkiamiphmndmcaaDoorW.PrintLast Go.Proofs.YtkiamiphmndmcaaDoorW.PrintMore
attribute [local go_sem] max2_int min2_int max_two min_two max_three min_three max_four min_four   -- for this text's walks alone
set_option linter.unusedVariables false
set_option linter.unusedSimpArgs false

/-! ### word_To: function 24 -/
def word_To.j0 : Nat → Int → Int → Bool → Option (Int × Bool)
  | 0, _, _, _ => none
  | k + 1, x0, x1, x8 => if x8 = true then (if (Go.bits .and .u64 x1 7) = (IntKind.u64.wrap (x0)) then (if (x1 / 8) < 1099511627776 then (some (wrap64 (x1 / 8), true)) else (some (0, false))) else (some (0, false))) else (some (0, false))
def word_To.f (k : Nat) (a0 : Int) (a1 : Int) : Option (Int × Bool) := if a0 = 1 then (word_To.j0 k a0 a1 (a0 == 1)) else (if a0 = 3 then (word_To.j0 k a0 a1 (a0 == 3)) else (word_To.j0 k a0 a1 (a0 == 4)))
theorem word_To.mono_l : ∀ k, (∀ y0 y1 y2, LeO (word_To.j0 k y0 y1 y2) (word_To.j0 (k + 1) y0 y1 y2))
  | 0 => fun _ _ _ r h => by simp [word_To.j0] at h
  | k + 1 => by
    have ih0 := word_To.mono_l k
    · intro y0 y1 y2
      unfold word_To.j0
      repeat' first
      | (with_reducible exact ih0 _ _ _)
      | (with_reducible exact LeO.refl _)
      | (with_reducible exact LeO.none _)
      | (with_reducible refine LeO.ite ?_ ?_)
      | (with_reducible refine LeO.bind ?_ (fun _ => ?_))
      | exact ih0 _ _ _
      | exact LeO.none _
      | refine LeO.ite ?_ ?_
      | refine LeO.bind ?_ (fun _ => ?_)
theorem word_To.mono : ∀ a0 a1 k, LeO (word_To.f k a0 a1) (word_To.f (k + 1) a0 a1) := by
  intro a0 a1 k
  have ih0 := word_To.mono_l k
  unfold word_To.f
  repeat' first
      | (with_reducible exact ih0 _ _ _)
      | (with_reducible exact LeO.refl _)
      | (with_reducible exact LeO.none _)
      | (with_reducible refine LeO.ite ?_ ?_)
      | (with_reducible refine LeO.bind ?_ (fun _ => ?_))
      | exact ih0 _ _ _
      | exact LeO.none _
      | refine LeO.ite ?_ ?_
      | refine LeO.bind ?_ (fun _ => ?_)
set_option maxHeartbeats 8000000 in
set_option maxRecDepth 100000 in
theorem word_To.calls (k : Nat) (a0 : Int) (a1 : Int) (r1 : Int) (r2 : Bool) (w : World) (h : word_To.f k a0 a1 = some (r1, r2)) :
    Calls Tryd.prog 24 #[.int .i64 a0, .int .u64 a1] w fun e w' => e = .returned (.tuple #[.int .i64 r1, .bool r2]) ∧ Drawn0 w w' := by
  have H : (if a0 = 1 then (word_To.j0 k a0 a1 (a0 == 1)) else (if a0 = 3 then (word_To.j0 k a0 a1 (a0 == 3)) else (word_To.j0 k a0 a1 (a0 == 4)))) = some (r1, r2) := h
  clear h
  have HC3 := Aside0.mk H
  clear H
  go_enter Tryd.func24, Tryd.ntmps24
  go_upto_if 8 with (fail)
  go_cut [8] (fun v8 wc => ∃ (kq : Nat) (x8_2 : Bool), v8 = .bool x8_2 ∧ Aside0 (word_To.j0 kq a0 a1 x8_2 = some (r1, r2)) ∧ Aside0 (kq ≤ k) ∧ Drawn0 w wc)
  case first =>
    have H := HC3.out
    clear HC3
    by_cases c4 : a0 = 1
    · rw [if_pos c4] at H
      have c4b0 : (a0 == 1) = true := beq_iff_eq.mpr c4
      have c4b1 : (a0 != 1) = false := bne_eq_false_iff_eq.mpr c4
      clear c4
      (first | rw [c4b0] | (simp only [i64_w, i32_w]; rw [c4b0]) | skip)
      have H' := Aside0.mk H
      clear H
      go_wp2
      go_meet
      case rel => exact ⟨_, ((a0 == 1)), (by first | rfl | (simp; done) | (simp [*]; done)), H', ⟨by first | omega | exact Nat.le_refl _⟩, by repeat (first | exact Drawn0.refl _ | apply Drawn0.step)⟩
    · rw [if_neg c4] at H
      have c4b0 : (a0 == 1) = false := beq_eq_false_iff_ne.mpr c4
      have c4b1 : (a0 != 1) = true := bne_iff_ne.mpr c4
      (first | rw [c4b0] | (simp only [i64_w, i32_w]; rw [c4b0]) | skip)
      by_cases c5 : a0 = 3
      · rw [if_pos c5] at H
        have c5b0 : (a0 == 3) = true := beq_iff_eq.mpr c5
        have c5b1 : (a0 != 3) = false := bne_eq_false_iff_eq.mpr c5
        clear c5
        have H' := Aside0.mk H
        clear H
        go_wp2
        go_meet
        case rel => exact ⟨_, ((a0 == 3)), (by first | rfl | (simp; done) | (simp [*]; done)), H', ⟨by first | omega | exact Nat.le_refl _⟩, by repeat (first | exact Drawn0.refl _ | apply Drawn0.step)⟩
      · rw [if_neg c5] at H
        have c5b0 : (a0 == 3) = false := beq_eq_false_iff_ne.mpr c5
        have c5b1 : (a0 != 3) = true := bne_iff_ne.mpr c5
        have H' := Aside0.mk H
        clear H
        go_wp2
        go_meet
        case rel => exact ⟨_, ((a0 == 4)), (by first | rfl | (simp; done) | (simp [*]; done)), H', ⟨by first | omega | exact Nat.le_refl _⟩, by repeat (first | exact Drawn0.refl _ | apply Drawn0.step)⟩
  case rest =>
    clear HC3
    try clear c2
    try clear p2
    try clear c4
    try clear c4b0
    try clear c4b1
    try clear c5
    try clear c5b0
    try clear c5b1
    obtain ⟨kq, x8_2, rfl, HA, HJ2, ⟨mc2, rfl⟩⟩ := hcut
    cases kq with
    | zero => exact absurd HA.out (by simp [word_To.j0])
    | succ kj2 =>
      have H := HA.out
      clear HA
      simp only [word_To.j0] at H
      by_cases c6 : x8_2 = true
      · subst c6
        have H1 : (if (Go.bits .and .u64 a1 7) = (IntKind.u64.wrap (a0)) then (if (a1 / 8) < 1099511627776 then (some (wrap64 (a1 / 8), true)) else (some (0, false))) else (some (0, false))) = some (r1, r2) := by rw [if_pos rfl] at H; exact H
        clear H
        have H := H1
        clear H1
        by_cases c7 : (Go.bits .and .u64 a1 7) = (IntKind.u64.wrap (a0))
        · rw [if_pos c7] at H
          have c7b0 : ((Go.bits .and .u64 a1 7) == (IntKind.u64.wrap (a0))) = true := beq_iff_eq.mpr c7
          have c7b1 : ((Go.bits .and .u64 a1 7) != (IntKind.u64.wrap (a0))) = false := bne_eq_false_iff_eq.mpr c7
          clear c7
          by_cases c8 : (a1 / 8) < 1099511627776
          · rw [if_pos c8] at H
            have c8b0 : decide ((a1 / 8) < 1099511627776) = true := decide_eq_true c8
            clear c8
            simp only [Option.some.injEq, Prod.mk.injEq] at H
            obtain ⟨rfl, rfl⟩ := H
            go_wp2
            go_ret2
            exact ⟨by first | rfl | (simp; done) | (simp [*]; done), by repeat (first | exact Drawn0.refl _ | apply Drawn0.step)⟩
          · rw [if_neg c8] at H
            have c8b0 : decide ((a1 / 8) < 1099511627776) = false := decide_eq_false c8
            clear c8
            simp only [Option.some.injEq, Prod.mk.injEq] at H
            obtain ⟨rfl, rfl⟩ := H
            go_wp2
            go_ret2
            exact ⟨by first | rfl | (simp; done) | (simp [*]; done), by repeat (first | exact Drawn0.refl _ | apply Drawn0.step)⟩
        · rw [if_neg c7] at H
          have c7b0 : ((Go.bits .and .u64 a1 7) == (IntKind.u64.wrap (a0))) = false := beq_eq_false_iff_ne.mpr c7
          have c7b1 : ((Go.bits .and .u64 a1 7) != (IntKind.u64.wrap (a0))) = true := bne_iff_ne.mpr c7
          simp only [Option.some.injEq, Prod.mk.injEq] at H
          obtain ⟨rfl, rfl⟩ := H
          go_wp2
          go_ret2
          exact ⟨by first | rfl | (simp; done) | (simp [*]; done), by repeat (first | exact Drawn0.refl _ | apply Drawn0.step)⟩
      · replace c6 := Bool.eq_false_iff.mpr c6
        subst c6
        have H1 : (some (0, false)) = some (r1, r2) := by rw [if_neg (show ¬ (false = true) by decide)] at H; exact H
        clear H
        have H := H1
        clear H1
        simp only [Option.some.injEq, Prod.mk.injEq] at H
        obtain ⟨rfl, rfl⟩ := H
        go_wp2
        go_ret2
        exact ⟨by first | rfl | (simp; done) | (simp [*]; done), by repeat (first | exact Drawn0.refl _ | apply Drawn0.step)⟩

/-! ### word_ToInt: function 29 -/
def word_ToInt.f (a0 : Int) : Option (Int × Bool) := if (Go.bits .and .u64 a0 7) = 0 then (if ((wrap64 (a0)) / 8) ≤ (-1099511627776) then (some (0, false)) else (if ((wrap64 (a0)) / 8) ≥ 1099511627776 then (some (0, false)) else (some ((wrap64 (a0)) / 8, true)))) else (some (0, false))
set_option maxHeartbeats 8000000 in
set_option maxRecDepth 100000 in
theorem word_ToInt.calls (a0 : Int) (r1 : Int) (r2 : Bool) (w : World) (h : word_ToInt.f a0 = some (r1, r2)) :
    Calls Tryd.prog 29 #[.int .u64 a0] w fun e w' => e = .returned (.tuple #[.int .i64 r1, .bool r2]) ∧ Drawn0 w w' := by
  have H : (if (Go.bits .and .u64 a0 7) = 0 then (if ((wrap64 (a0)) / 8) ≤ (-1099511627776) then (some (0, false)) else (if ((wrap64 (a0)) / 8) ≥ 1099511627776 then (some (0, false)) else (some ((wrap64 (a0)) / 8, true)))) else (some (0, false))) = some (r1, r2) := h
  clear h
  by_cases c2 : (Go.bits .and .u64 a0 7) = 0
  · rw [if_pos c2] at H
    have c2b0 : ((Go.bits .and .u64 a0 7) == 0) = true := beq_iff_eq.mpr c2
    have c2b1 : ((Go.bits .and .u64 a0 7) != 0) = false := bne_eq_false_iff_eq.mpr c2
    clear c2
    by_cases c3 : ((wrap64 (a0)) / 8) ≤ (-1099511627776)
    · rw [if_pos c3] at H
      have c3b0 : decide (((wrap64 (a0)) / 8) ≤ (-1099511627776)) = true := decide_eq_true c3
      clear c3
      simp only [Option.some.injEq, Prod.mk.injEq] at H
      obtain ⟨rfl, rfl⟩ := H
      go_enter Tryd.func29, Tryd.ntmps29
      go_wp2
      go_ret2
      exact ⟨by first | rfl | (simp; done) | (simp [*]; done), by repeat (first | exact Drawn0.refl _ | apply Drawn0.step)⟩
    · rw [if_neg c3] at H
      have c3b0 : decide (((wrap64 (a0)) / 8) ≤ (-1099511627776)) = false := decide_eq_false c3
      clear c3
      by_cases c4 : ((wrap64 (a0)) / 8) ≥ 1099511627776
      · rw [if_pos c4] at H
        have c4b0 : decide (1099511627776 ≤ ((wrap64 (a0)) / 8)) = true := decide_eq_true c4
        clear c4
        simp only [Option.some.injEq, Prod.mk.injEq] at H
        obtain ⟨rfl, rfl⟩ := H
        go_enter Tryd.func29, Tryd.ntmps29
        go_wp2
        go_ret2
        exact ⟨by first | rfl | (simp; done) | (simp [*]; done), by repeat (first | exact Drawn0.refl _ | apply Drawn0.step)⟩
      · rw [if_neg c4] at H
        have c4b0 : decide (1099511627776 ≤ ((wrap64 (a0)) / 8)) = false := decide_eq_false c4
        clear c4
        simp only [Option.some.injEq, Prod.mk.injEq] at H
        obtain ⟨rfl, rfl⟩ := H
        go_enter Tryd.func29, Tryd.ntmps29
        go_wp2
        go_ret2
        exact ⟨by first | rfl | (simp; done) | (simp [*]; done), by repeat (first | exact Drawn0.refl _ | apply Drawn0.step)⟩
  · rw [if_neg c2] at H
    have c2b0 : ((Go.bits .and .u64 a0 7) == 0) = false := beq_eq_false_iff_ne.mpr c2
    have c2b1 : ((Go.bits .and .u64 a0 7) != 0) = true := bne_iff_ne.mpr c2
    simp only [Option.some.injEq, Prod.mk.injEq] at H
    obtain ⟨rfl, rfl⟩ := H
    go_enter Tryd.func29, Tryd.ntmps29
    go_wp2
    go_ret2
    exact ⟨by first | rfl | (simp; done) | (simp [*]; done), by repeat (first | exact Drawn0.refl _ | apply Drawn0.step)⟩

/-! ### word_May: function 25 -/
def word_May.f (k : Nat) (a0 : Int) : Option (Bool) := if (wrap64 (Go.bits .and .u64 a0 7)) = 0 then ((word_ToInt.f a0).bind fun bt145 => (some bt145.2)) else (if (wrap64 (Go.bits .and .u64 a0 7)) = 2 then (some (decide (a0 ≤ 26))) else ((word_To.f k (wrap64 (Go.bits .and .u64 a0 7)) a0).bind fun bt147 => (some bt147.2)))
theorem word_May.mono : ∀ a0 k, LeO (word_May.f k a0) (word_May.f (k + 1) a0) := by
  intro a0 k
  unfold word_May.f
  repeat' first
      | (with_reducible exact word_To.mono _ _ _)
      | (with_reducible exact LeO.refl _)
      | (with_reducible exact LeO.none _)
      | (with_reducible refine LeO.ite ?_ ?_)
      | (with_reducible refine LeO.bind ?_ (fun _ => ?_))
      | exact word_To.mono _ _ _
      | exact LeO.none _
      | refine LeO.ite ?_ ?_
      | refine LeO.bind ?_ (fun _ => ?_)
set_option maxHeartbeats 8000000 in
set_option maxRecDepth 100000 in
theorem word_May.calls (k : Nat) (a0 : Int) (r : Bool) (w : World) (h : word_May.f k a0 = some r) :
    Calls Tryd.prog 25 #[.int .u64 a0] w fun e w' => e = .returned (.bool r) ∧ Drawn0 w w' := by
  have H : (if (wrap64 (Go.bits .and .u64 a0 7)) = 0 then ((word_ToInt.f a0).bind fun bt145 => (some bt145.2)) else (if (wrap64 (Go.bits .and .u64 a0 7)) = 2 then (some (decide (a0 ≤ 26))) else ((word_To.f k (wrap64 (Go.bits .and .u64 a0 7)) a0).bind fun bt147 => (some bt147.2)))) = some r := h
  clear h
  by_cases c2 : (wrap64 (Go.bits .and .u64 a0 7)) = 0
  · rw [if_pos c2] at H
    have c2b0 : ((wrap64 (Go.bits .and .u64 a0 7)) == 0) = true := beq_iff_eq.mpr c2
    have c2b1 : ((wrap64 (Go.bits .and .u64 a0 7)) != 0) = false := bne_eq_false_iff_eq.mpr c2
    clear c2
    replace H := Option.bind_eq_some_iff.mp H
    obtain ⟨⟨t145, t146⟩, A30, H⟩ := H
    replace H : (some t146) = some r := H
    have A3 := Aside0.mk A30
    clear A30
    obtain rfl := Option.some.inj H
    go_enter Tryd.func25, Tryd.ntmps25
    go_wp2_with (first | ((with_reducible refine gate_callee (f := 29) rfl ?_); refine goesL_ (some 16) rfl rfl Tryd.func29 (by kernel_rfl) rfl #[.int .u64 a0] rfl (by (try simp only [List.map_toArray, List.map_cons, List.map_nil]); first | done | rfl | (simp only [List.length_drop, List.length_take]; rfl)) ?_; (with_reducible refine (word_ToInt.calls a0 t145 t146 _ A3.out).mono ?_); rintro e w' ⟨rfl, ⟨nd, rfl⟩⟩; refine ⟨_, rfl, ?_⟩))
    go_ret
    exact ⟨by first | rfl | (simp; done) | (simp [*]; done), by repeat (first | exact Drawn0.refl _ | apply Drawn0.step)⟩
  · rw [if_neg c2] at H
    have c2b0 : ((wrap64 (Go.bits .and .u64 a0 7)) == 0) = false := beq_eq_false_iff_ne.mpr c2
    have c2b1 : ((wrap64 (Go.bits .and .u64 a0 7)) != 0) = true := bne_iff_ne.mpr c2
    by_cases c4 : (wrap64 (Go.bits .and .u64 a0 7)) = 2
    · rw [if_pos c4] at H
      have c4b0 : ((wrap64 (Go.bits .and .u64 a0 7)) == 2) = true := beq_iff_eq.mpr c4
      have c4b1 : ((wrap64 (Go.bits .and .u64 a0 7)) != 2) = false := bne_eq_false_iff_eq.mpr c4
      clear c4
      obtain rfl := Option.some.inj H
      go_enter Tryd.func25, Tryd.ntmps25
      go_wp2
      go_ret
      exact ⟨by first | rfl | (simp; done) | (simp [*]; done), by repeat (first | exact Drawn0.refl _ | apply Drawn0.step)⟩
    · rw [if_neg c4] at H
      have c4b0 : ((wrap64 (Go.bits .and .u64 a0 7)) == 2) = false := beq_eq_false_iff_ne.mpr c4
      have c4b1 : ((wrap64 (Go.bits .and .u64 a0 7)) != 2) = true := bne_iff_ne.mpr c4
      replace H := Option.bind_eq_some_iff.mp H
      obtain ⟨⟨t147, t148⟩, A50, H⟩ := H
      replace H : (some t148) = some r := H
      have A5 := Aside0.mk A50
      clear A50
      obtain rfl := Option.some.inj H
      go_enter Tryd.func25, Tryd.ntmps25
      go_wp2_with (first | ((with_reducible refine gate_callee (f := 24) rfl ?_); refine goesL_ (some 27) rfl rfl Tryd.func24 (by kernel_rfl) rfl #[.int .i64 (wrap64 (Go.bits .and .u64 a0 7)), .int .u64 a0] rfl (by (try simp only [List.map_toArray, List.map_cons, List.map_nil]); first | done | rfl | (simp only [List.length_drop, List.length_take]; rfl)) ?_; (with_reducible refine (word_To.calls k (wrap64 (Go.bits .and .u64 a0 7)) a0 t147 t148 _ A5.out).mono ?_); rintro e w' ⟨rfl, ⟨nd, rfl⟩⟩; refine ⟨_, rfl, ?_⟩))
      go_ret
      exact ⟨by first | rfl | (simp; done) | (simp [*]; done), by repeat (first | exact Drawn0.refl _ | apply Drawn0.step)⟩

end Go.Proofs.YtkiamiphmndmcaaDoor.PCodes

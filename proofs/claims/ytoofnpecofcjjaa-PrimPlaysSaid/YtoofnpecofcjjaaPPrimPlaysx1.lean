-- PRINTED BY print.sh 35421559b90ae4d0a3588c463048766b98c2df88dd9212a6774a882060cdf62d: not written by this session
import Derived.Test.YtoofnpecofcjjaaPPrimPlaysx0
namespace Go.Proofs.Ytoofnpecofcjjaa.PPrimPlays
open Go.RowKit Go.Proofs.YtoofnpecofcjjaaW.PrintWords Go.Proofs.YtoofnpecofcjjaaW.PrintLast Go.Proofs.YtoofnpecofcjjaaW.PrintMore
attribute [local go_sem] max2_int min2_int max_two min_two max_three min_three max_four min_four   -- for this text's walks alone
set_option linter.unusedVariables false
set_option linter.unusedSimpArgs false

-- NOT PRINTED: function 10 (arena_New)

/-! ### word_Bool: function 34 -/
def word_Bool.f (a0 : Bool) : Option (Int) := if a0 = true then (some 18) else (some 10)
set_option maxHeartbeats 8000000 in
set_option maxRecDepth 100000 in
theorem word_Bool.calls (a0 : Bool) (r : Int) (w : World) (h : word_Bool.f a0 = some r) :
    Calls Try.prog 34 #[.bool a0] w fun e w' => e = .returned (.int .u64 r) ∧ Drawn0 w w' := by
  have H : (if a0 = true then (some 18) else (some 10)) = some r := h
  clear h
  by_cases c2 : a0 = true
  · subst c2
    have H1 : (some 18) = some r := by rw [if_pos rfl] at H; exact H
    clear H
    have H := H1
    clear H1
    obtain rfl := Option.some.inj H
    go_enter Try.func34, Try.ntmps34
    go_wp2
    go_ret
    exact ⟨by first | rfl | (simp; done) | (simp [*]; done), by repeat (first | exact Drawn0.refl _ | apply Drawn0.step)⟩
  · replace c2 := Bool.eq_false_iff.mpr c2
    subst c2
    have H1 : (some 10) = some r := by rw [if_neg (show ¬ (false = true) by decide)] at H; exact H
    clear H
    have H := H1
    clear H1
    obtain rfl := Option.some.inj H
    go_enter Try.func34, Try.ntmps34
    go_wp2
    go_ret
    exact ⟨by first | rfl | (simp; done) | (simp [*]; done), by repeat (first | exact Drawn0.refl _ | apply Drawn0.step)⟩

-- NOT PRINTED: function 35 (prim_asks)

-- NOT PRINTED: function 16 (arena_Arena_Used)

/-! ### word_To: function 48 -/
def word_To.j0 : Nat → Int → Int → Bool → Option (Int × Bool)
  | 0, _, _, _ => none
  | k + 1, x0, x1, x8 => if x8 = true then (if (Go.bits .and .u64 x1 7) = (IntKind.u64.wrap (x0)) then (if (x1 / 8) < 1099511627776 then (some (wrap64 (x1 / 8), true)) else (some (0, false))) else (some (0, false))) else (some (0, false))
def word_To.f (k : Nat) (a0 : Int) (a1 : Int) : Option (Int × Bool) := if a0 = 1 then (word_To.j0 k a0 a1 (a0 == 1)) else (if a0 = 3 then (word_To.j0 k a0 a1 (a0 == 3)) else (word_To.j0 k a0 a1 (a0 == 4)))
theorem word_To.mono_l : ∀ k, (∀ y0 y1 y2, LeO (word_To.j0 k y0 y1 y2) (word_To.j0 (k + 1) y0 y1 y2))
  | 0 => fun _ _ _ r h => by simp [word_To.j0] at h
  | k + 1 => by
    have ih0 := word_To.mono_l k
    · intro y0 y1 y2
      unfold word_To.j0
      repeat' first
      | (with_reducible exact ih0 _ _ _)
      | (with_reducible exact LeO.refl _)
      | (with_reducible exact LeO.none _)
      | (with_reducible refine LeO.ite ?_ ?_)
      | (with_reducible refine LeO.bind ?_ (fun _ => ?_))
      | exact ih0 _ _ _
      | exact LeO.none _
      | refine LeO.ite ?_ ?_
      | refine LeO.bind ?_ (fun _ => ?_)
theorem word_To.mono : ∀ a0 a1 k, LeO (word_To.f k a0 a1) (word_To.f (k + 1) a0 a1) := by
  intro a0 a1 k
  have ih0 := word_To.mono_l k
  unfold word_To.f
  repeat' first
      | (with_reducible exact ih0 _ _ _)
      | (with_reducible exact LeO.refl _)
      | (with_reducible exact LeO.none _)
      | (with_reducible refine LeO.ite ?_ ?_)
      | (with_reducible refine LeO.bind ?_ (fun _ => ?_))
      | exact ih0 _ _ _
      | exact LeO.none _
      | refine LeO.ite ?_ ?_
      | refine LeO.bind ?_ (fun _ => ?_)
set_option maxHeartbeats 8000000 in
set_option maxRecDepth 100000 in
theorem word_To.calls (k : Nat) (a0 : Int) (a1 : Int) (r1 : Int) (r2 : Bool) (w : World) (h : word_To.f k a0 a1 = some (r1, r2)) :
    Calls Try.prog 48 #[.int .i64 a0, .int .u64 a1] w fun e w' => e = .returned (.tuple #[.int .i64 r1, .bool r2]) ∧ Drawn0 w w' := by
  have H : (if a0 = 1 then (word_To.j0 k a0 a1 (a0 == 1)) else (if a0 = 3 then (word_To.j0 k a0 a1 (a0 == 3)) else (word_To.j0 k a0 a1 (a0 == 4)))) = some (r1, r2) := h
  clear h
  have HC3 := Aside0.mk H
  clear H
  go_enter Try.func48, Try.ntmps48
  go_upto_if 8 with (fail)
  go_cut [8] (fun v8 wc => ∃ (kq : Nat) (x8_2 : Bool), v8 = .bool x8_2 ∧ Aside0 (word_To.j0 kq a0 a1 x8_2 = some (r1, r2)) ∧ Aside0 (kq ≤ k) ∧ Drawn0 w wc)
  case first =>
    have H := HC3.out
    clear HC3
    by_cases c4 : a0 = 1
    · rw [if_pos c4] at H
      have c4b0 : (a0 == 1) = true := beq_iff_eq.mpr c4
      have c4b1 : (a0 != 1) = false := bne_eq_false_iff_eq.mpr c4
      clear c4
      (first | rw [c4b0] | (simp only [i64_w, i32_w]; rw [c4b0]) | skip)
      have H' := Aside0.mk H
      clear H
      go_wp2
      go_meet
      case rel => exact ⟨_, ((a0 == 1)), (by first | rfl | (simp; done) | (simp [*]; done)), H', ⟨by first | omega | exact Nat.le_refl _⟩, by repeat (first | exact Drawn0.refl _ | apply Drawn0.step)⟩
    · rw [if_neg c4] at H
      have c4b0 : (a0 == 1) = false := beq_eq_false_iff_ne.mpr c4
      have c4b1 : (a0 != 1) = true := bne_iff_ne.mpr c4
      (first | rw [c4b0] | (simp only [i64_w, i32_w]; rw [c4b0]) | skip)
      by_cases c5 : a0 = 3
      · rw [if_pos c5] at H
        have c5b0 : (a0 == 3) = true := beq_iff_eq.mpr c5
        have c5b1 : (a0 != 3) = false := bne_eq_false_iff_eq.mpr c5
        clear c5
        have H' := Aside0.mk H
        clear H
        go_wp2
        go_meet
        case rel => exact ⟨_, ((a0 == 3)), (by first | rfl | (simp; done) | (simp [*]; done)), H', ⟨by first | omega | exact Nat.le_refl _⟩, by repeat (first | exact Drawn0.refl _ | apply Drawn0.step)⟩
      · rw [if_neg c5] at H
        have c5b0 : (a0 == 3) = false := beq_eq_false_iff_ne.mpr c5
        have c5b1 : (a0 != 3) = true := bne_iff_ne.mpr c5
        have H' := Aside0.mk H
        clear H
        go_wp2
        go_meet
        case rel => exact ⟨_, ((a0 == 4)), (by first | rfl | (simp; done) | (simp [*]; done)), H', ⟨by first | omega | exact Nat.le_refl _⟩, by repeat (first | exact Drawn0.refl _ | apply Drawn0.step)⟩
  case rest =>
    clear HC3
    try clear p2
    try clear c4
    try clear c4b0
    try clear c4b1
    try clear c5
    try clear c5b0
    try clear c5b1
    obtain ⟨kq, x8_2, rfl, HA, HJ2, ⟨mc2, rfl⟩⟩ := hcut
    cases kq with
    | zero => exact absurd HA.out (by simp [word_To.j0])
    | succ kj2 =>
      have H := HA.out
      clear HA
      simp only [word_To.j0] at H
      by_cases c6 : x8_2 = true
      · subst c6
        have H1 : (if (Go.bits .and .u64 a1 7) = (IntKind.u64.wrap (a0)) then (if (a1 / 8) < 1099511627776 then (some (wrap64 (a1 / 8), true)) else (some (0, false))) else (some (0, false))) = some (r1, r2) := by rw [if_pos rfl] at H; exact H
        clear H
        have H := H1
        clear H1
        by_cases c7 : (Go.bits .and .u64 a1 7) = (IntKind.u64.wrap (a0))
        · rw [if_pos c7] at H
          have c7b0 : ((Go.bits .and .u64 a1 7) == (IntKind.u64.wrap (a0))) = true := beq_iff_eq.mpr c7
          have c7b1 : ((Go.bits .and .u64 a1 7) != (IntKind.u64.wrap (a0))) = false := bne_eq_false_iff_eq.mpr c7
          clear c7
          by_cases c8 : (a1 / 8) < 1099511627776
          · rw [if_pos c8] at H
            have c8b0 : decide ((a1 / 8) < 1099511627776) = true := decide_eq_true c8
            clear c8
            simp only [Option.some.injEq, Prod.mk.injEq] at H
            obtain ⟨rfl, rfl⟩ := H
            go_wp2
            go_ret2
            exact ⟨by first | rfl | (simp; done) | (simp [*]; done), by repeat (first | exact Drawn0.refl _ | apply Drawn0.step)⟩
          · rw [if_neg c8] at H
            have c8b0 : decide ((a1 / 8) < 1099511627776) = false := decide_eq_false c8
            clear c8
            simp only [Option.some.injEq, Prod.mk.injEq] at H
            obtain ⟨rfl, rfl⟩ := H
            go_wp2
            go_ret2
            exact ⟨by first | rfl | (simp; done) | (simp [*]; done), by repeat (first | exact Drawn0.refl _ | apply Drawn0.step)⟩
        · rw [if_neg c7] at H
          have c7b0 : ((Go.bits .and .u64 a1 7) == (IntKind.u64.wrap (a0))) = false := beq_eq_false_iff_ne.mpr c7
          have c7b1 : ((Go.bits .and .u64 a1 7) != (IntKind.u64.wrap (a0))) = true := bne_iff_ne.mpr c7
          simp only [Option.some.injEq, Prod.mk.injEq] at H
          obtain ⟨rfl, rfl⟩ := H
          go_wp2
          go_ret2
          exact ⟨by first | rfl | (simp; done) | (simp [*]; done), by repeat (first | exact Drawn0.refl _ | apply Drawn0.step)⟩
      · replace c6 := Bool.eq_false_iff.mpr c6
        subst c6
        have H1 : (some (0, false)) = some (r1, r2) := by rw [if_neg (show ¬ (false = true) by decide)] at H; exact H
        clear H
        have H := H1
        clear H1
        simp only [Option.some.injEq, Prod.mk.injEq] at H
        obtain ⟨rfl, rfl⟩ := H
        go_wp2
        go_ret2
        exact ⟨by first | rfl | (simp; done) | (simp [*]; done), by repeat (first | exact Drawn0.refl _ | apply Drawn0.step)⟩

-- NOT PRINTED: function 53 (arena_Arena_find)

-- NOT PRINTED: function 50 (arena_Arena_Kind)

-- NOT PRINTED: function 51 (arena_Arena_Len)

-- NOT PRINTED: function 36 (prim_pair)

-- NOT PRINTED: function 52 (arena_Arena_at)

-- NOT PRINTED: function 37 (arena_Arena_Get)

-- NOT PRINTED: function 21 (prim_one)

-- NOT PRINTED: function 18 (arena_Arena_Size)

/-! ### word_Of: function 19 -/
def word_Of.j0 : Nat → Int → Int → Bool → Option (Int × Int)
  | 0, _, _, _ => none
  | k + 1, x0, x1, x7 => if x7 = true then (if x1 ≥ 0 then (if x1 < 1099511627776 then (some (Go.bits .or .u64 (IntKind.u64.wrap ((IntKind.u64.wrap (x1)) * 8)) (IntKind.u64.wrap (x0)), 0)) else (some (0, 1))) else (some (0, 1))) else (some (0, 1))
def word_Of.f (k : Nat) (a0 : Int) (a1 : Int) : Option (Int × Int) := if a0 = 1 then (word_Of.j0 k a0 a1 (a0 == 1)) else (if a0 = 3 then (word_Of.j0 k a0 a1 (a0 == 3)) else (word_Of.j0 k a0 a1 (a0 == 4)))
theorem word_Of.mono_l : ∀ k, (∀ y0 y1 y2, LeO (word_Of.j0 k y0 y1 y2) (word_Of.j0 (k + 1) y0 y1 y2))
  | 0 => fun _ _ _ r h => by simp [word_Of.j0] at h
  | k + 1 => by
    have ih0 := word_Of.mono_l k
    · intro y0 y1 y2
      unfold word_Of.j0
      repeat' first
      | (with_reducible exact ih0 _ _ _)
      | (with_reducible exact LeO.refl _)
      | (with_reducible exact LeO.none _)
      | (with_reducible refine LeO.ite ?_ ?_)
      | (with_reducible refine LeO.bind ?_ (fun _ => ?_))
      | exact ih0 _ _ _
      | exact LeO.none _
      | refine LeO.ite ?_ ?_
      | refine LeO.bind ?_ (fun _ => ?_)
theorem word_Of.mono : ∀ a0 a1 k, LeO (word_Of.f k a0 a1) (word_Of.f (k + 1) a0 a1) := by
  intro a0 a1 k
  have ih0 := word_Of.mono_l k
  unfold word_Of.f
  repeat' first
      | (with_reducible exact ih0 _ _ _)
      | (with_reducible exact LeO.refl _)
      | (with_reducible exact LeO.none _)
      | (with_reducible refine LeO.ite ?_ ?_)
      | (with_reducible refine LeO.bind ?_ (fun _ => ?_))
      | exact ih0 _ _ _
      | exact LeO.none _
      | refine LeO.ite ?_ ?_
      | refine LeO.bind ?_ (fun _ => ?_)
set_option maxHeartbeats 8000000 in
set_option maxRecDepth 100000 in
theorem word_Of.calls (k : Nat) (a0 : Int) (a1 : Int) (r1 : Int) (r2 : Int) (w : World) (h : word_Of.f k a0 a1 = some (r1, r2)) :
    Calls Try.prog 19 #[.int .i64 a0, .int .i64 a1] w fun e w' => e = .returned (.tuple #[.int .u64 r1, .int .i64 r2]) ∧ Drawn0 w w' := by
  have H : (if a0 = 1 then (word_Of.j0 k a0 a1 (a0 == 1)) else (if a0 = 3 then (word_Of.j0 k a0 a1 (a0 == 3)) else (word_Of.j0 k a0 a1 (a0 == 4)))) = some (r1, r2) := h
  clear h
  have HC3 := Aside0.mk H
  clear H
  go_enter Try.func19, Try.ntmps19
  go_upto_if 7 with (fail)
  go_cut [7] (fun v7 wc => ∃ (kq : Nat) (x7_2 : Bool), v7 = .bool x7_2 ∧ Aside0 (word_Of.j0 kq a0 a1 x7_2 = some (r1, r2)) ∧ Aside0 (kq ≤ k) ∧ Drawn0 w wc)
  case first =>
    have H := HC3.out
    clear HC3
    by_cases c4 : a0 = 1
    · rw [if_pos c4] at H
      have c4b0 : (a0 == 1) = true := beq_iff_eq.mpr c4
      have c4b1 : (a0 != 1) = false := bne_eq_false_iff_eq.mpr c4
      clear c4
      (first | rw [c4b0] | (simp only [i64_w, i32_w]; rw [c4b0]) | skip)
      have H' := Aside0.mk H
      clear H
      go_wp2
      go_meet
      case rel => exact ⟨_, ((a0 == 1)), (by first | rfl | (simp; done) | (simp [*]; done)), H', ⟨by first | omega | exact Nat.le_refl _⟩, by repeat (first | exact Drawn0.refl _ | apply Drawn0.step)⟩
    · rw [if_neg c4] at H
      have c4b0 : (a0 == 1) = false := beq_eq_false_iff_ne.mpr c4
      have c4b1 : (a0 != 1) = true := bne_iff_ne.mpr c4
      (first | rw [c4b0] | (simp only [i64_w, i32_w]; rw [c4b0]) | skip)
      by_cases c5 : a0 = 3
      · rw [if_pos c5] at H
        have c5b0 : (a0 == 3) = true := beq_iff_eq.mpr c5
        have c5b1 : (a0 != 3) = false := bne_eq_false_iff_eq.mpr c5
        clear c5
        have H' := Aside0.mk H
        clear H
        go_wp2
        go_meet
        case rel => exact ⟨_, ((a0 == 3)), (by first | rfl | (simp; done) | (simp [*]; done)), H', ⟨by first | omega | exact Nat.le_refl _⟩, by repeat (first | exact Drawn0.refl _ | apply Drawn0.step)⟩
      · rw [if_neg c5] at H
        have c5b0 : (a0 == 3) = false := beq_eq_false_iff_ne.mpr c5
        have c5b1 : (a0 != 3) = true := bne_iff_ne.mpr c5
        have H' := Aside0.mk H
        clear H
        go_wp2
        go_meet
        case rel => exact ⟨_, ((a0 == 4)), (by first | rfl | (simp; done) | (simp [*]; done)), H', ⟨by first | omega | exact Nat.le_refl _⟩, by repeat (first | exact Drawn0.refl _ | apply Drawn0.step)⟩
  case rest =>
    clear HC3
    try clear c1
    try clear p2
    try clear c4
    try clear c4b0
    try clear c4b1
    try clear c5
    try clear c5b0
    try clear c5b1
    obtain ⟨kq, x7_2, rfl, HA, HJ2, ⟨mc2, rfl⟩⟩ := hcut
    cases kq with
    | zero => exact absurd HA.out (by simp [word_Of.j0])
    | succ kj2 =>
      have H := HA.out
      clear HA
      simp only [word_Of.j0] at H
      by_cases c6 : x7_2 = true
      · subst c6
        have H1 : (if a1 ≥ 0 then (if a1 < 1099511627776 then (some (Go.bits .or .u64 (IntKind.u64.wrap ((IntKind.u64.wrap (a1)) * 8)) (IntKind.u64.wrap (a0)), 0)) else (some (0, 1))) else (some (0, 1))) = some (r1, r2) := by rw [if_pos rfl] at H; exact H
        clear H
        have H := H1
        clear H1
        by_cases c7 : a1 ≥ 0
        · rw [if_pos c7] at H
          have c7b0 : decide (0 ≤ a1) = true := decide_eq_true c7
          clear c7
          by_cases c8 : a1 < 1099511627776
          · rw [if_pos c8] at H
            have c8b0 : decide (a1 < 1099511627776) = true := decide_eq_true c8
            clear c8
            simp only [Option.some.injEq, Prod.mk.injEq] at H
            obtain ⟨rfl, rfl⟩ := H
            go_wp2
            go_ret2
            exact ⟨by first | rfl | (simp; done) | (simp [*]; done), by repeat (first | exact Drawn0.refl _ | apply Drawn0.step)⟩
          · rw [if_neg c8] at H
            have c8b0 : decide (a1 < 1099511627776) = false := decide_eq_false c8
            clear c8
            simp only [Option.some.injEq, Prod.mk.injEq] at H
            obtain ⟨rfl, rfl⟩ := H
            go_wp2
            go_ret2
            exact ⟨by first | rfl | (simp; done) | (simp [*]; done), by repeat (first | exact Drawn0.refl _ | apply Drawn0.step)⟩
        · rw [if_neg c7] at H
          have c7b0 : decide (0 ≤ a1) = false := decide_eq_false c7
          clear c7
          simp only [Option.some.injEq, Prod.mk.injEq] at H
          obtain ⟨rfl, rfl⟩ := H
          go_wp2
          go_ret2
          exact ⟨by first | rfl | (simp; done) | (simp [*]; done), by repeat (first | exact Drawn0.refl _ | apply Drawn0.step)⟩
      · replace c6 := Bool.eq_false_iff.mpr c6
        subst c6
        have H1 : (some (0, 1)) = some (r1, r2) := by rw [if_neg (show ¬ (false = true) by decide)] at H; exact H
        clear H
        have H := H1
        clear H1
        simp only [Option.some.injEq, Prod.mk.injEq] at H
        obtain ⟨rfl, rfl⟩ := H
        go_wp2
        go_ret2
        exact ⟨by first | rfl | (simp; done) | (simp [*]; done), by repeat (first | exact Drawn0.refl _ | apply Drawn0.step)⟩

-- NOT PRINTED: function 12 (arena_Arena_Alloc)

/-! ### word_ToInt: function 31 -/
def word_ToInt.f (a0 : Int) : Option (Int × Bool) := if (Go.bits .and .u64 a0 7) = 0 then (if ((wrap64 (a0)) / 8) ≤ (-1099511627776) then (some (0, false)) else (if ((wrap64 (a0)) / 8) ≥ 1099511627776 then (some (0, false)) else (some ((wrap64 (a0)) / 8, true)))) else (some (0, false))
set_option maxHeartbeats 8000000 in
set_option maxRecDepth 100000 in
theorem word_ToInt.calls (a0 : Int) (r1 : Int) (r2 : Bool) (w : World) (h : word_ToInt.f a0 = some (r1, r2)) :
    Calls Try.prog 31 #[.int .u64 a0] w fun e w' => e = .returned (.tuple #[.int .i64 r1, .bool r2]) ∧ Drawn0 w w' := by
  have H : (if (Go.bits .and .u64 a0 7) = 0 then (if ((wrap64 (a0)) / 8) ≤ (-1099511627776) then (some (0, false)) else (if ((wrap64 (a0)) / 8) ≥ 1099511627776 then (some (0, false)) else (some ((wrap64 (a0)) / 8, true)))) else (some (0, false))) = some (r1, r2) := h
  clear h
  by_cases c2 : (Go.bits .and .u64 a0 7) = 0
  · rw [if_pos c2] at H
    have c2b0 : ((Go.bits .and .u64 a0 7) == 0) = true := beq_iff_eq.mpr c2
    have c2b1 : ((Go.bits .and .u64 a0 7) != 0) = false := bne_eq_false_iff_eq.mpr c2
    clear c2
    by_cases c3 : ((wrap64 (a0)) / 8) ≤ (-1099511627776)
    · rw [if_pos c3] at H
      have c3b0 : decide (((wrap64 (a0)) / 8) ≤ (-1099511627776)) = true := decide_eq_true c3
      clear c3
      simp only [Option.some.injEq, Prod.mk.injEq] at H
      obtain ⟨rfl, rfl⟩ := H
      go_enter Try.func31, Try.ntmps31
      go_wp2
      go_ret2
      exact ⟨by first | rfl | (simp; done) | (simp [*]; done), by repeat (first | exact Drawn0.refl _ | apply Drawn0.step)⟩
    · rw [if_neg c3] at H
      have c3b0 : decide (((wrap64 (a0)) / 8) ≤ (-1099511627776)) = false := decide_eq_false c3
      clear c3
      by_cases c4 : ((wrap64 (a0)) / 8) ≥ 1099511627776
      · rw [if_pos c4] at H
        have c4b0 : decide (1099511627776 ≤ ((wrap64 (a0)) / 8)) = true := decide_eq_true c4
        clear c4
        simp only [Option.some.injEq, Prod.mk.injEq] at H
        obtain ⟨rfl, rfl⟩ := H
        go_enter Try.func31, Try.ntmps31
        go_wp2
        go_ret2
        exact ⟨by first | rfl | (simp; done) | (simp [*]; done), by repeat (first | exact Drawn0.refl _ | apply Drawn0.step)⟩
      · rw [if_neg c4] at H
        have c4b0 : decide (1099511627776 ≤ ((wrap64 (a0)) / 8)) = false := decide_eq_false c4
        clear c4
        simp only [Option.some.injEq, Prod.mk.injEq] at H
        obtain ⟨rfl, rfl⟩ := H
        go_enter Try.func31, Try.ntmps31
        go_wp2
        go_ret2
        exact ⟨by first | rfl | (simp; done) | (simp [*]; done), by repeat (first | exact Drawn0.refl _ | apply Drawn0.step)⟩
  · rw [if_neg c2] at H
    have c2b0 : ((Go.bits .and .u64 a0 7) == 0) = false := beq_eq_false_iff_ne.mpr c2
    have c2b1 : ((Go.bits .and .u64 a0 7) != 0) = true := bne_iff_ne.mpr c2
    simp only [Option.some.injEq, Prod.mk.injEq] at H
    obtain ⟨rfl, rfl⟩ := H
    go_enter Try.func31, Try.ntmps31
    go_wp2
    go_ret2
    exact ⟨by first | rfl | (simp; done) | (simp [*]; done), by repeat (first | exact Drawn0.refl _ | apply Drawn0.step)⟩

/-! ### word_Int: function 32 -/
def word_Int.f (a0 : Int) : Option (Int × Int) := if a0 ≤ (-1099511627776) then (some (0, 10)) else (if a0 ≥ 1099511627776 then (some (0, 10)) else (some (IntKind.u64.wrap ((IntKind.u64.wrap (a0)) * 8), 0)))
set_option maxHeartbeats 8000000 in
set_option maxRecDepth 100000 in
theorem word_Int.calls (a0 : Int) (r1 : Int) (r2 : Int) (w : World) (h : word_Int.f a0 = some (r1, r2)) :
    Calls Try.prog 32 #[.int .i64 a0] w fun e w' => e = .returned (.tuple #[.int .u64 r1, .int .i64 r2]) ∧ Drawn0 w w' := by
  have H : (if a0 ≤ (-1099511627776) then (some (0, 10)) else (if a0 ≥ 1099511627776 then (some (0, 10)) else (some (IntKind.u64.wrap ((IntKind.u64.wrap (a0)) * 8), 0)))) = some (r1, r2) := h
  clear h
  by_cases c2 : a0 ≤ (-1099511627776)
  · rw [if_pos c2] at H
    have c2b0 : decide (a0 ≤ (-1099511627776)) = true := decide_eq_true c2
    clear c2
    simp only [Option.some.injEq, Prod.mk.injEq] at H
    obtain ⟨rfl, rfl⟩ := H
    go_enter Try.func32, Try.ntmps32
    go_wp2
    go_ret2
    exact ⟨by first | rfl | (simp; done) | (simp [*]; done), by repeat (first | exact Drawn0.refl _ | apply Drawn0.step)⟩
  · rw [if_neg c2] at H
    have c2b0 : decide (a0 ≤ (-1099511627776)) = false := decide_eq_false c2
    clear c2
    by_cases c3 : a0 ≥ 1099511627776
    · rw [if_pos c3] at H
      have c3b0 : decide (1099511627776 ≤ a0) = true := decide_eq_true c3
      clear c3
      simp only [Option.some.injEq, Prod.mk.injEq] at H
      obtain ⟨rfl, rfl⟩ := H
      go_enter Try.func32, Try.ntmps32
      go_wp2
      go_ret2
      exact ⟨by first | rfl | (simp; done) | (simp [*]; done), by repeat (first | exact Drawn0.refl _ | apply Drawn0.step)⟩
    · rw [if_neg c3] at H
      have c3b0 : decide (1099511627776 ≤ a0) = false := decide_eq_false c3
      clear c3
      simp only [Option.some.injEq, Prod.mk.injEq] at H
      obtain ⟨rfl, rfl⟩ := H
      go_enter Try.func32, Try.ntmps32
      go_wp2
      go_ret2
      exact ⟨by first | rfl | (simp; done) | (simp [*]; done), by repeat (first | exact Drawn0.refl _ | apply Drawn0.step)⟩

/-! ### bits_Mul64: function 42 -/
def bits_Mul64.f (a0 : Int) (a1 : Int) : Option (Int × Int) := some (IntKind.u64.wrap ((IntKind.u64.wrap ((IntKind.u64.wrap ((a0 / 4294967296) * (a1 / 4294967296))) + ((IntKind.u64.wrap ((IntKind.u64.wrap ((a0 / 4294967296) * (Go.bits .and .u64 a1 4294967295))) + ((IntKind.u64.wrap ((Go.bits .and .u64 a0 4294967295) * (Go.bits .and .u64 a1 4294967295))) / 4294967296))) / 4294967296))) + ((IntKind.u64.wrap ((Go.bits .and .u64 (IntKind.u64.wrap ((IntKind.u64.wrap ((a0 / 4294967296) * (Go.bits .and .u64 a1 4294967295))) + ((IntKind.u64.wrap ((Go.bits .and .u64 a0 4294967295) * (Go.bits .and .u64 a1 4294967295))) / 4294967296))) 4294967295) + (IntKind.u64.wrap ((Go.bits .and .u64 a0 4294967295) * (a1 / 4294967296))))) / 4294967296)), IntKind.u64.wrap (a0 * a1))
set_option maxHeartbeats 8000000 in
set_option maxRecDepth 100000 in
theorem bits_Mul64.calls (a0 : Int) (a1 : Int) (r1 : Int) (r2 : Int) (w : World) (h : bits_Mul64.f a0 a1 = some (r1, r2)) :
    Calls Try.prog 42 #[.int .u64 a0, .int .u64 a1] w fun e w' => e = .returned (.tuple #[.int .u64 r1, .int .u64 r2]) ∧ Drawn0 w w' := by
  have H : (some (IntKind.u64.wrap ((IntKind.u64.wrap ((IntKind.u64.wrap ((a0 / 4294967296) * (a1 / 4294967296))) + ((IntKind.u64.wrap ((IntKind.u64.wrap ((a0 / 4294967296) * (Go.bits .and .u64 a1 4294967295))) + ((IntKind.u64.wrap ((Go.bits .and .u64 a0 4294967295) * (Go.bits .and .u64 a1 4294967295))) / 4294967296))) / 4294967296))) + ((IntKind.u64.wrap ((Go.bits .and .u64 (IntKind.u64.wrap ((IntKind.u64.wrap ((a0 / 4294967296) * (Go.bits .and .u64 a1 4294967295))) + ((IntKind.u64.wrap ((Go.bits .and .u64 a0 4294967295) * (Go.bits .and .u64 a1 4294967295))) / 4294967296))) 4294967295) + (IntKind.u64.wrap ((Go.bits .and .u64 a0 4294967295) * (a1 / 4294967296))))) / 4294967296)), IntKind.u64.wrap (a0 * a1))) = some (r1, r2) := h
  clear h
  simp only [Option.some.injEq, Prod.mk.injEq] at H
  obtain ⟨rfl, rfl⟩ := H
  go_enter Try.func42, Try.ntmps42
  go_wp2
  go_ret2
  exact ⟨by first | rfl | (simp; done) | (simp [*]; done), by repeat (first | exact Drawn0.refl _ | apply Drawn0.step)⟩

/-! ### word_times: function 33 -/
def word_times.j0 : Nat → Int → Int → Int → Bool → Option (Int × Int)
  | 0, _, _, _, _ => none
  | k + 1, x0, x1, x7, x28 => if x28 = true then (some (0, 10)) else (if ((decide (x0 < 0)) != (decide (x1 < 0))) = true then ((word_Int.f (wrap64 (-(wrap64 (x7))))).bind fun bt105 => (some (bt105.1, bt105.2))) else ((word_Int.f (wrap64 (x7))).bind fun bt107 => (some (bt107.1, bt107.2))))
def word_times.f (k : Nat) (a0 : Int) (a1 : Int) : Option (Int × Int) := (bits_Mul64.f (IntKind.u64.wrap (mx a0 (wrap64 (-a0)))) (IntKind.u64.wrap (mx a1 (wrap64 (-a1))))).bind fun bt103 => (if bt103.1 > 0 then (word_times.j0 k a0 a1 bt103.2 true) else (word_times.j0 k a0 a1 bt103.2 (decide (bt103.2 ≥ 1099511627776))))
theorem word_times.mono_l : ∀ k, (∀ y0 y1 y2 y3, LeO (word_times.j0 k y0 y1 y2 y3) (word_times.j0 (k + 1) y0 y1 y2 y3))
  | 0 => fun _ _ _ _ r h => by simp [word_times.j0] at h
  | k + 1 => by
    have ih0 := word_times.mono_l k
    · intro y0 y1 y2 y3
      unfold word_times.j0
      repeat' first
      | (with_reducible exact ih0 _ _ _ _)
      | (with_reducible exact LeO.refl _)
      | (with_reducible exact LeO.none _)
      | (with_reducible refine LeO.ite ?_ ?_)
      | (with_reducible refine LeO.bind ?_ (fun _ => ?_))
      | exact ih0 _ _ _ _
      | exact LeO.none _
      | refine LeO.ite ?_ ?_
      | refine LeO.bind ?_ (fun _ => ?_)
theorem word_times.mono : ∀ a0 a1 k, LeO (word_times.f k a0 a1) (word_times.f (k + 1) a0 a1) := by
  intro a0 a1 k
  have ih0 := word_times.mono_l k
  unfold word_times.f
  repeat' first
      | (with_reducible exact ih0 _ _ _ _)
      | (with_reducible exact LeO.refl _)
      | (with_reducible exact LeO.none _)
      | (with_reducible refine LeO.ite ?_ ?_)
      | (with_reducible refine LeO.bind ?_ (fun _ => ?_))
      | exact ih0 _ _ _ _
      | exact LeO.none _
      | refine LeO.ite ?_ ?_
      | refine LeO.bind ?_ (fun _ => ?_)
set_option maxHeartbeats 8000000 in
set_option maxRecDepth 100000 in
theorem word_times.calls (k : Nat) (a0 : Int) (a1 : Int) (r1 : Int) (r2 : Int) (w : World) (h : word_times.f k a0 a1 = some (r1, r2)) :
    Calls Try.prog 33 #[.int .i64 a0, .int .i64 a1] w fun e w' => e = .returned (.tuple #[.int .u64 r1, .int .i64 r2]) ∧ Below w.heap.size w w' := by
  have HB := Aside0.mk (Below.refl w.heap.size w)
  have H : ((bits_Mul64.f (IntKind.u64.wrap (mx a0 (wrap64 (-a0)))) (IntKind.u64.wrap (mx a1 (wrap64 (-a1))))).bind fun bt103 => (if bt103.1 > 0 then (word_times.j0 k a0 a1 bt103.2 true) else (word_times.j0 k a0 a1 bt103.2 (decide (bt103.2 ≥ 1099511627776))))) = some (r1, r2) := h
  clear h
  obtain ⟨ji3, hji3⟩ : ∃ j_ : Int, (mx a0 (wrap64 (-a0))) = j_ := ⟨_, rfl⟩
  replace H : ((bits_Mul64.f (IntKind.u64.wrap (ji3)) (IntKind.u64.wrap (mx a1 (wrap64 (-a1))))).bind fun bt103 => (if bt103.1 > 0 then (word_times.j0 k a0 a1 bt103.2 true) else (word_times.j0 k a0 a1 bt103.2 (decide (bt103.2 ≥ 1099511627776))))) = some (r1, r2) := by first | (rw [hji3] at H; exact H) | (simp only [hji3] at H ⊢; exact H)
  have hji3_ : (if a0 < (wrap64 (-a0)) then (wrap64 (-a0)) else a0) = ji3 := hji3
  obtain ⟨ji4, hji4⟩ : ∃ j_ : Int, (mx a1 (wrap64 (-a1))) = j_ := ⟨_, rfl⟩
  replace H : ((bits_Mul64.f (IntKind.u64.wrap (ji3)) (IntKind.u64.wrap (ji4))).bind fun bt103 => (if bt103.1 > 0 then (word_times.j0 k a0 a1 bt103.2 true) else (word_times.j0 k a0 a1 bt103.2 (decide (bt103.2 ≥ 1099511627776))))) = some (r1, r2) := by first | (rw [hji4] at H; exact H) | (simp only [hji4] at H ⊢; exact H)
  have hji4_ : (if a1 < (wrap64 (-a1)) then (wrap64 (-a1)) else a1) = ji4 := hji4
  replace H := Option.bind_eq_some_iff.mp H
  obtain ⟨⟨t103, t104⟩, A50, H⟩ := H
  replace H : (if t103 > 0 then (word_times.j0 k a0 a1 t104 true) else (word_times.j0 k a0 a1 t104 (decide (t104 ≥ 1099511627776)))) = some (r1, r2) := H
  have A5 := Aside0.mk A50
  clear A50
  have HC6 := Aside0.mk H
  clear H
  go_enter Try.func33, Try.ntmps33
  go_upto_region 2 with (first | ((with_reducible refine gate_callee (f := 42) rfl ?_); refine goesL_ (some 20) rfl rfl Try.func42 (by kernel_rfl) rfl #[.int .u64 (IntKind.u64.wrap (ji3)), .int .u64 (IntKind.u64.wrap (ji4))] rfl (by (try simp only [List.map_toArray, List.map_cons, List.map_nil]); first | done | (simp only [hji3, hji4]; rfl) | rfl | (simp only [List.length_drop, List.length_take]; rfl)) ?_; (with_reducible refine (bits_Mul64.calls (IntKind.u64.wrap (ji3)) (IntKind.u64.wrap (ji4)) t103 t104 _ A5.out).mono ?_); rintro e w' ⟨rfl, ⟨nd, rfl⟩⟩; refine ⟨_, rfl, ?_⟩))
  (try simp only [Act.put, List.setIfInBounds_toArray, List.set_cons_zero, List.set_cons_succ])
  go_cut [28] (fun v28 wc => ∃ (kq : Nat) (x28_5 : Bool), v28 = .bool x28_5 ∧ Aside0 (word_times.j0 kq a0 a1 t104 x28_5 = some (r1, r2)) ∧ Aside0 (kq ≤ k) ∧ Aside0 (Below w.heap.size w wc))
  case first =>
    have H := HC6.out
    clear HC6
    by_cases c7 : t103 > 0
    · rw [if_pos c7] at H
      have c7b0 : decide (0 < t103) = true := decide_eq_true c7
      clear c7
      (first | rw [c7b0] | (simp only [i64_w, i32_w]; rw [c7b0]) | skip)
      have H' := Aside0.mk H
      clear H
      go_wp2
      go_meet
      case rel => exact ⟨_, (true), (by first | rfl | (simp; done) | (simp [*]; done)), H', ⟨by first | omega | exact Nat.le_refl _⟩, ⟨by repeat (first | (with_reducible first | exact HB.out | apply below_alloc | apply pw_below_drewN | apply below_drew1) | exact HB.out)⟩⟩
    · rw [if_neg c7] at H
      have c7b0 : decide (0 < t103) = false := decide_eq_false c7
      clear c7
      (first | rw [c7b0] | (simp only [i64_w, i32_w]; rw [c7b0]) | skip)
      have H' := Aside0.mk H
      clear H
      go_wp2
      go_meet
      case rel => exact ⟨_, (decide (t104 ≥ 1099511627776)), (by first | rfl | (simp; done) | (simp [*]; done)), H', ⟨by first | omega | exact Nat.le_refl _⟩, ⟨by repeat (first | (with_reducible first | exact HB.out | apply below_alloc | apply pw_below_drewN | apply below_drew1) | exact HB.out)⟩⟩
  case rest =>
    clear HC6
    try clear p2
    try clear c3
    try clear c4
    try clear p6
    try clear c7
    try clear c7b0
    obtain ⟨kq, x28_5, rfl, HA, HJ5, HB⟩ := hcut
    cases kq with
    | zero => exact absurd HA.out (by simp [word_times.j0])
    | succ kj5 =>
      have H := HA.out
      clear HA
      simp only [word_times.j0] at H
      by_cases c8 : x28_5 = true
      · subst c8
        have H1 : (some (0, 10)) = some (r1, r2) := by rw [if_pos rfl] at H; exact H
        clear H
        have H := H1
        clear H1
        simp only [Option.some.injEq, Prod.mk.injEq] at H
        obtain ⟨rfl, rfl⟩ := H
        go_wp2
        go_ret2
        exact ⟨by first | rfl | (simp [errW_none, errW_some] <;> rfl) | (simp only [← hji3, ← hji4]; first | rfl | (simp [errW_none, errW_some] <;> rfl)) | (simp [*, errW_none, errW_some] <;> rfl), by repeat (first | (with_reducible first | exact HB.out | apply below_alloc | apply pw_below_drewN | apply below_drew1) | exact HB.out)⟩
      · replace c8 := Bool.eq_false_iff.mpr c8
        subst c8
        have H1 : (if ((decide (a0 < 0)) != (decide (a1 < 0))) = true then ((word_Int.f (wrap64 (-(wrap64 (t104))))).bind fun bt105 => (some (bt105.1, bt105.2))) else ((word_Int.f (wrap64 (t104))).bind fun bt107 => (some (bt107.1, bt107.2)))) = some (r1, r2) := by rw [if_neg (show ¬ (false = true) by decide)] at H; exact H
        clear H
        have H := H1
        clear H1
        by_cases c9 : ((decide (a0 < 0)) != (decide (a1 < 0))) = true
        · rw [if_pos c9] at H
          have c9b0 : ((decide (a0 < 0)) != (decide (a1 < 0))) = true := c9
          (try (have c9b1 : decide ((decide (a0 < 0)) = (decide (a1 < 0))) = false := by simpa using c9))
          (try (have c9b2 : ((decide (a0 < 0)) == (decide (a1 < 0))) = false := by simpa using c9))
          (try (have c9b3 : ¬ ((decide (a0 < 0)) = (decide (a1 < 0))) := by simpa using c9))
          clear c9
          replace H := Option.bind_eq_some_iff.mp H
          obtain ⟨⟨t105, t106⟩, A100, H⟩ := H
          replace H : (some (t105, t106)) = some (r1, r2) := H
          have A10 := Aside0.mk A100
          clear A100
          simp only [Option.some.injEq, Prod.mk.injEq] at H
          obtain ⟨rfl, rfl⟩ := H
          go_wp2_with (first | ((with_reducible refine gate_callee (f := 32) rfl ?_); refine goesL_ (some 39) rfl rfl Try.func32 (by kernel_rfl) rfl #[.int .i64 (wrap64 (-(wrap64 (t104))))] rfl (by (try simp only [List.map_toArray, List.map_cons, List.map_nil]); first | done | rfl | (simp only [List.length_drop, List.length_take]; rfl)) ?_; (with_reducible refine (word_Int.calls (wrap64 (-(wrap64 (t104)))) t105 t106 _ A10.out).mono ?_); rintro e w' ⟨rfl, ⟨nd, rfl⟩⟩; refine ⟨_, rfl, ?_⟩))
          go_ret2
          exact ⟨by first | rfl | (simp [errW_none, errW_some] <;> rfl) | (simp only [← hji3, ← hji4]; first | rfl | (simp [errW_none, errW_some] <;> rfl)) | (simp [*, errW_none, errW_some] <;> rfl), by repeat (first | (with_reducible first | exact HB.out | apply below_alloc | apply pw_below_drewN | apply below_drew1) | exact HB.out)⟩
        · rw [if_neg c9] at H
          have c9b0 : ((decide (a0 < 0)) != (decide (a1 < 0))) = false := by simpa using c9
          (try (have c9b1 : decide ((decide (a0 < 0)) = (decide (a1 < 0))) = true := by simpa using c9))
          (try (have c9b2 : ((decide (a0 < 0)) == (decide (a1 < 0))) = true := by simpa using c9))
          clear c9
          replace H := Option.bind_eq_some_iff.mp H
          obtain ⟨⟨t107, t108⟩, A110, H⟩ := H
          replace H : (some (t107, t108)) = some (r1, r2) := H
          have A11 := Aside0.mk A110
          clear A110
          simp only [Option.some.injEq, Prod.mk.injEq] at H
          obtain ⟨rfl, rfl⟩ := H
          go_wp2_with (first | ((with_reducible refine gate_callee (f := 32) rfl ?_); refine goesL_ (some 39) rfl rfl Try.func32 (by kernel_rfl) rfl #[.int .i64 (wrap64 (t104))] rfl (by (try simp only [List.map_toArray, List.map_cons, List.map_nil]); first | done | rfl | (simp only [List.length_drop, List.length_take]; rfl)) ?_; (with_reducible refine (word_Int.calls (wrap64 (t104)) t107 t108 _ A11.out).mono ?_); rintro e w' ⟨rfl, ⟨nd, rfl⟩⟩; refine ⟨_, rfl, ?_⟩))
          go_ret2
          exact ⟨by first | rfl | (simp [errW_none, errW_some] <;> rfl) | (simp only [← hji3, ← hji4]; first | rfl | (simp [errW_none, errW_some] <;> rfl)) | (simp [*, errW_none, errW_some] <;> rfl), by repeat (first | (with_reducible first | exact HB.out | apply below_alloc | apply pw_below_drewN | apply below_drew1) | exact HB.out)⟩

end Go.Proofs.Ytoofnpecofcjjaa.PPrimPlays

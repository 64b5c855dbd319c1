-- PRINTED BY print.sh 35421559b90ae4d0a3588c463048766b98c2df88dd9212a6774a882060cdf62d: not written by this session
import Derived.Test.YtfabipoeollidaaPWordApartx0
namespace Go.Proofs.Ytfabipoeollidaa.PWordApart
open Go.RowKit Go.Proofs.YtfabipoeollidaaW.PrintWords Go.Proofs.YtfabipoeollidaaW.PrintLast Go.Proofs.YtfabipoeollidaaW.PrintMore
attribute [local go_sem] max2_int min2_int max_two min_two max_three min_three max_four min_four   -- for this text's walks alone
set_option linter.unusedVariables false
set_option linter.unusedSimpArgs false

/-! ### word_Int: function 14 -/
def word_Int.f (a0 : Int) : Option (Int × Int) := if a0 ≤ (-1099511627776) then (some (0, 10)) else (if a0 ≥ 1099511627776 then (some (0, 10)) else (some (IntKind.u64.wrap ((IntKind.u64.wrap (a0)) * 8), 0)))
set_option maxHeartbeats 8000000 in
set_option maxRecDepth 100000 in
theorem word_Int.calls (a0 : Int) (r1 : Int) (r2 : Int) (w : World) (h : word_Int.f a0 = some (r1, r2)) :
    Calls Try.prog 14 #[.int .i64 a0] w fun e w' => e = .returned (.tuple #[.int .u64 r1, .int .i64 r2]) ∧ Drawn0 w w' := by
  have H : (if a0 ≤ (-1099511627776) then (some (0, 10)) else (if a0 ≥ 1099511627776 then (some (0, 10)) else (some (IntKind.u64.wrap ((IntKind.u64.wrap (a0)) * 8), 0)))) = some (r1, r2) := h
  clear h
  by_cases c2 : a0 ≤ (-1099511627776)
  · rw [if_pos c2] at H
    have c2b0 : decide (a0 ≤ (-1099511627776)) = true := decide_eq_true c2
    clear c2
    simp only [Option.some.injEq, Prod.mk.injEq] at H
    obtain ⟨rfl, rfl⟩ := H
    go_enter Try.func14, Try.ntmps14
    go_wp2
    go_ret2
    exact ⟨by first | rfl | (simp; done) | (simp [*]; done), by repeat (first | exact Drawn0.refl _ | apply Drawn0.step)⟩
  · rw [if_neg c2] at H
    have c2b0 : decide (a0 ≤ (-1099511627776)) = false := decide_eq_false c2
    clear c2
    by_cases c3 : a0 ≥ 1099511627776
    · rw [if_pos c3] at H
      have c3b0 : decide (1099511627776 ≤ a0) = true := decide_eq_true c3
      clear c3
      simp only [Option.some.injEq, Prod.mk.injEq] at H
      obtain ⟨rfl, rfl⟩ := H
      go_enter Try.func14, Try.ntmps14
      go_wp2
      go_ret2
      exact ⟨by first | rfl | (simp; done) | (simp [*]; done), by repeat (first | exact Drawn0.refl _ | apply Drawn0.step)⟩
    · rw [if_neg c3] at H
      have c3b0 : decide (1099511627776 ≤ a0) = false := decide_eq_false c3
      clear c3
      simp only [Option.some.injEq, Prod.mk.injEq] at H
      obtain ⟨rfl, rfl⟩ := H
      go_enter Try.func14, Try.ntmps14
      go_wp2
      go_ret2
      exact ⟨by first | rfl | (simp; done) | (simp [*]; done), by repeat (first | exact Drawn0.refl _ | apply Drawn0.step)⟩

/-! ### word_ToInt: function 15 -/
def word_ToInt.f (a0 : Int) : Option (Int × Bool) := if (Go.bits .and .u64 a0 7) = 0 then (if ((wrap64 (a0)) / 8) ≤ (-1099511627776) then (some (0, false)) else (if ((wrap64 (a0)) / 8) ≥ 1099511627776 then (some (0, false)) else (some ((wrap64 (a0)) / 8, true)))) else (some (0, false))
set_option maxHeartbeats 8000000 in
set_option maxRecDepth 100000 in
theorem word_ToInt.calls (a0 : Int) (r1 : Int) (r2 : Bool) (w : World) (h : word_ToInt.f a0 = some (r1, r2)) :
    Calls Try.prog 15 #[.int .u64 a0] w fun e w' => e = .returned (.tuple #[.int .i64 r1, .bool r2]) ∧ Drawn0 w w' := by
  have H : (if (Go.bits .and .u64 a0 7) = 0 then (if ((wrap64 (a0)) / 8) ≤ (-1099511627776) then (some (0, false)) else (if ((wrap64 (a0)) / 8) ≥ 1099511627776 then (some (0, false)) else (some ((wrap64 (a0)) / 8, true)))) else (some (0, false))) = some (r1, r2) := h
  clear h
  by_cases c2 : (Go.bits .and .u64 a0 7) = 0
  · rw [if_pos c2] at H
    have c2b0 : ((Go.bits .and .u64 a0 7) == 0) = true := beq_iff_eq.mpr c2
    have c2b1 : ((Go.bits .and .u64 a0 7) != 0) = false := bne_eq_false_iff_eq.mpr c2
    clear c2
    by_cases c3 : ((wrap64 (a0)) / 8) ≤ (-1099511627776)
    · rw [if_pos c3] at H
      have c3b0 : decide (((wrap64 (a0)) / 8) ≤ (-1099511627776)) = true := decide_eq_true c3
      clear c3
      simp only [Option.some.injEq, Prod.mk.injEq] at H
      obtain ⟨rfl, rfl⟩ := H
      go_enter Try.func15, Try.ntmps15
      go_wp2
      go_ret2
      exact ⟨by first | rfl | (simp; done) | (simp [*]; done), by repeat (first | exact Drawn0.refl _ | apply Drawn0.step)⟩
    · rw [if_neg c3] at H
      have c3b0 : decide (((wrap64 (a0)) / 8) ≤ (-1099511627776)) = false := decide_eq_false c3
      clear c3
      by_cases c4 : ((wrap64 (a0)) / 8) ≥ 1099511627776
      · rw [if_pos c4] at H
        have c4b0 : decide (1099511627776 ≤ ((wrap64 (a0)) / 8)) = true := decide_eq_true c4
        clear c4
        simp only [Option.some.injEq, Prod.mk.injEq] at H
        obtain ⟨rfl, rfl⟩ := H
        go_enter Try.func15, Try.ntmps15
        go_wp2
        go_ret2
        exact ⟨by first | rfl | (simp; done) | (simp [*]; done), by repeat (first | exact Drawn0.refl _ | apply Drawn0.step)⟩
      · rw [if_neg c4] at H
        have c4b0 : decide (1099511627776 ≤ ((wrap64 (a0)) / 8)) = false := decide_eq_false c4
        clear c4
        simp only [Option.some.injEq, Prod.mk.injEq] at H
        obtain ⟨rfl, rfl⟩ := H
        go_enter Try.func15, Try.ntmps15
        go_wp2
        go_ret2
        exact ⟨by first | rfl | (simp; done) | (simp [*]; done), by repeat (first | exact Drawn0.refl _ | apply Drawn0.step)⟩
  · rw [if_neg c2] at H
    have c2b0 : ((Go.bits .and .u64 a0 7) == 0) = false := beq_eq_false_iff_ne.mpr c2
    have c2b1 : ((Go.bits .and .u64 a0 7) != 0) = true := bne_iff_ne.mpr c2
    simp only [Option.some.injEq, Prod.mk.injEq] at H
    obtain ⟨rfl, rfl⟩ := H
    go_enter Try.func15, Try.ntmps15
    go_wp2
    go_ret2
    exact ⟨by first | rfl | (simp; done) | (simp [*]; done), by repeat (first | exact Drawn0.refl _ | apply Drawn0.step)⟩

/-! ### word_Bool: function 20 -/
def word_Bool.f (a0 : Bool) : Option (Int) := if a0 = true then (some 18) else (some 10)
set_option maxHeartbeats 8000000 in
set_option maxRecDepth 100000 in
theorem word_Bool.calls (a0 : Bool) (r : Int) (w : World) (h : word_Bool.f a0 = some r) :
    Calls Try.prog 20 #[.bool a0] w fun e w' => e = .returned (.int .u64 r) ∧ Drawn0 w w' := by
  have H : (if a0 = true then (some 18) else (some 10)) = some r := h
  clear h
  by_cases c2 : a0 = true
  · subst c2
    have H1 : (some 18) = some r := by rw [if_pos rfl] at H; exact H
    clear H
    have H := H1
    clear H1
    obtain rfl := Option.some.inj H
    go_enter Try.func20, Try.ntmps20
    go_wp2
    go_ret
    exact ⟨by first | rfl | (simp; done) | (simp [*]; done), by repeat (first | exact Drawn0.refl _ | apply Drawn0.step)⟩
  · replace c2 := Bool.eq_false_iff.mpr c2
    subst c2
    have H1 : (some 10) = some r := by rw [if_neg (show ¬ (false = true) by decide)] at H; exact H
    clear H
    have H := H1
    clear H1
    obtain rfl := Option.some.inj H
    go_enter Try.func20, Try.ntmps20
    go_wp2
    go_ret
    exact ⟨by first | rfl | (simp; done) | (simp [*]; done), by repeat (first | exact Drawn0.refl _ | apply Drawn0.step)⟩

/-! ### bits_Mul64: function 29 -/
def bits_Mul64.f (a0 : Int) (a1 : Int) : Option (Int × Int) := some (IntKind.u64.wrap ((IntKind.u64.wrap ((IntKind.u64.wrap ((a0 / 4294967296) * (a1 / 4294967296))) + ((IntKind.u64.wrap ((IntKind.u64.wrap ((a0 / 4294967296) * (Go.bits .and .u64 a1 4294967295))) + ((IntKind.u64.wrap ((Go.bits .and .u64 a0 4294967295) * (Go.bits .and .u64 a1 4294967295))) / 4294967296))) / 4294967296))) + ((IntKind.u64.wrap ((Go.bits .and .u64 (IntKind.u64.wrap ((IntKind.u64.wrap ((a0 / 4294967296) * (Go.bits .and .u64 a1 4294967295))) + ((IntKind.u64.wrap ((Go.bits .and .u64 a0 4294967295) * (Go.bits .and .u64 a1 4294967295))) / 4294967296))) 4294967295) + (IntKind.u64.wrap ((Go.bits .and .u64 a0 4294967295) * (a1 / 4294967296))))) / 4294967296)), IntKind.u64.wrap (a0 * a1))
set_option maxHeartbeats 8000000 in
set_option maxRecDepth 100000 in
theorem bits_Mul64.calls (a0 : Int) (a1 : Int) (r1 : Int) (r2 : Int) (w : World) (h : bits_Mul64.f a0 a1 = some (r1, r2)) :
    Calls Try.prog 29 #[.int .u64 a0, .int .u64 a1] w fun e w' => e = .returned (.tuple #[.int .u64 r1, .int .u64 r2]) ∧ Drawn0 w w' := by
  have H : (some (IntKind.u64.wrap ((IntKind.u64.wrap ((IntKind.u64.wrap ((a0 / 4294967296) * (a1 / 4294967296))) + ((IntKind.u64.wrap ((IntKind.u64.wrap ((a0 / 4294967296) * (Go.bits .and .u64 a1 4294967295))) + ((IntKind.u64.wrap ((Go.bits .and .u64 a0 4294967295) * (Go.bits .and .u64 a1 4294967295))) / 4294967296))) / 4294967296))) + ((IntKind.u64.wrap ((Go.bits .and .u64 (IntKind.u64.wrap ((IntKind.u64.wrap ((a0 / 4294967296) * (Go.bits .and .u64 a1 4294967295))) + ((IntKind.u64.wrap ((Go.bits .and .u64 a0 4294967295) * (Go.bits .and .u64 a1 4294967295))) / 4294967296))) 4294967295) + (IntKind.u64.wrap ((Go.bits .and .u64 a0 4294967295) * (a1 / 4294967296))))) / 4294967296)), IntKind.u64.wrap (a0 * a1))) = some (r1, r2) := h
  clear h
  simp only [Option.some.injEq, Prod.mk.injEq] at H
  obtain ⟨rfl, rfl⟩ := H
  go_enter Try.func29, Try.ntmps29
  go_wp2
  go_ret2
  exact ⟨by first | rfl | (simp; done) | (simp [*]; done), by repeat (first | exact Drawn0.refl _ | apply Drawn0.step)⟩

/-! ### word_times: function 27 -/
def word_times.j0 : Nat → Int → Int → Int → Bool → Option (Int × Int)
  | 0, _, _, _, _ => none
  | k + 1, x0, x1, x7, x28 => if x28 = true then (some (0, 10)) else (if ((decide (x0 < 0)) != (decide (x1 < 0))) = true then ((word_Int.f (wrap64 (-(wrap64 (x7))))).bind fun bt103 => (some (bt103.1, bt103.2))) else ((word_Int.f (wrap64 (x7))).bind fun bt105 => (some (bt105.1, bt105.2))))
def word_times.f (k : Nat) (a0 : Int) (a1 : Int) : Option (Int × Int) := (bits_Mul64.f (IntKind.u64.wrap (mx a0 (wrap64 (-a0)))) (IntKind.u64.wrap (mx a1 (wrap64 (-a1))))).bind fun bt101 => (if bt101.1 > 0 then (word_times.j0 k a0 a1 bt101.2 true) else (word_times.j0 k a0 a1 bt101.2 (decide (bt101.2 ≥ 1099511627776))))
theorem word_times.mono_l : ∀ k, (∀ y0 y1 y2 y3, LeO (word_times.j0 k y0 y1 y2 y3) (word_times.j0 (k + 1) y0 y1 y2 y3))
  | 0 => fun _ _ _ _ r h => by simp [word_times.j0] at h
  | k + 1 => by
    have ih0 := word_times.mono_l k
    · intro y0 y1 y2 y3
      unfold word_times.j0
      repeat' first
      | (with_reducible exact ih0 _ _ _ _)
      | (with_reducible exact LeO.refl _)
      | (with_reducible exact LeO.none _)
      | (with_reducible refine LeO.ite ?_ ?_)
      | (with_reducible refine LeO.bind ?_ (fun _ => ?_))
      | exact ih0 _ _ _ _
      | exact LeO.none _
      | refine LeO.ite ?_ ?_
      | refine LeO.bind ?_ (fun _ => ?_)
theorem word_times.mono : ∀ a0 a1 k, LeO (word_times.f k a0 a1) (word_times.f (k + 1) a0 a1) := by
  intro a0 a1 k
  have ih0 := word_times.mono_l k
  unfold word_times.f
  repeat' first
      | (with_reducible exact ih0 _ _ _ _)
      | (with_reducible exact LeO.refl _)
      | (with_reducible exact LeO.none _)
      | (with_reducible refine LeO.ite ?_ ?_)
      | (with_reducible refine LeO.bind ?_ (fun _ => ?_))
      | exact ih0 _ _ _ _
      | exact LeO.none _
      | refine LeO.ite ?_ ?_
      | refine LeO.bind ?_ (fun _ => ?_)
set_option maxHeartbeats 8000000 in
set_option maxRecDepth 100000 in
theorem word_times.calls (k : Nat) (a0 : Int) (a1 : Int) (r1 : Int) (r2 : Int) (w : World) (h : word_times.f k a0 a1 = some (r1, r2)) :
    Calls Try.prog 27 #[.int .i64 a0, .int .i64 a1] w fun e w' => e = .returned (.tuple #[.int .u64 r1, .int .i64 r2]) ∧ Below w.heap.size w w' := by
  have HB := Aside0.mk (Below.refl w.heap.size w)
  have H : ((bits_Mul64.f (IntKind.u64.wrap (mx a0 (wrap64 (-a0)))) (IntKind.u64.wrap (mx a1 (wrap64 (-a1))))).bind fun bt101 => (if bt101.1 > 0 then (word_times.j0 k a0 a1 bt101.2 true) else (word_times.j0 k a0 a1 bt101.2 (decide (bt101.2 ≥ 1099511627776))))) = some (r1, r2) := h
  clear h
  obtain ⟨ji3, hji3⟩ : ∃ j_ : Int, (mx a0 (wrap64 (-a0))) = j_ := ⟨_, rfl⟩
  replace H : ((bits_Mul64.f (IntKind.u64.wrap (ji3)) (IntKind.u64.wrap (mx a1 (wrap64 (-a1))))).bind fun bt101 => (if bt101.1 > 0 then (word_times.j0 k a0 a1 bt101.2 true) else (word_times.j0 k a0 a1 bt101.2 (decide (bt101.2 ≥ 1099511627776))))) = some (r1, r2) := by first | (rw [hji3] at H; exact H) | (simp only [hji3] at H ⊢; exact H)
  have hji3_ : (if a0 < (wrap64 (-a0)) then (wrap64 (-a0)) else a0) = ji3 := hji3
  obtain ⟨ji4, hji4⟩ : ∃ j_ : Int, (mx a1 (wrap64 (-a1))) = j_ := ⟨_, rfl⟩
  replace H : ((bits_Mul64.f (IntKind.u64.wrap (ji3)) (IntKind.u64.wrap (ji4))).bind fun bt101 => (if bt101.1 > 0 then (word_times.j0 k a0 a1 bt101.2 true) else (word_times.j0 k a0 a1 bt101.2 (decide (bt101.2 ≥ 1099511627776))))) = some (r1, r2) := by first | (rw [hji4] at H; exact H) | (simp only [hji4] at H ⊢; exact H)
  have hji4_ : (if a1 < (wrap64 (-a1)) then (wrap64 (-a1)) else a1) = ji4 := hji4
  replace H := Option.bind_eq_some_iff.mp H
  obtain ⟨⟨t101, t102⟩, A50, H⟩ := H
  replace H : (if t101 > 0 then (word_times.j0 k a0 a1 t102 true) else (word_times.j0 k a0 a1 t102 (decide (t102 ≥ 1099511627776)))) = some (r1, r2) := H
  have A5 := Aside0.mk A50
  clear A50
  have HC6 := Aside0.mk H
  clear H
  go_enter Try.func27, Try.ntmps27
  go_upto_region 2 with (first | ((with_reducible refine gate_callee (f := 29) rfl ?_); refine goesL_ (some 20) rfl rfl Try.func29 (by kernel_rfl) rfl #[.int .u64 (IntKind.u64.wrap (ji3)), .int .u64 (IntKind.u64.wrap (ji4))] rfl (by (try simp only [List.map_toArray, List.map_cons, List.map_nil]); first | done | (simp only [hji3, hji4]; rfl) | rfl | (simp only [List.length_drop, List.length_take]; rfl)) ?_; (with_reducible refine (bits_Mul64.calls (IntKind.u64.wrap (ji3)) (IntKind.u64.wrap (ji4)) t101 t102 _ A5.out).mono ?_); rintro e w' ⟨rfl, ⟨nd, rfl⟩⟩; refine ⟨_, rfl, ?_⟩))
  (try simp only [Act.put, List.setIfInBounds_toArray, List.set_cons_zero, List.set_cons_succ])
  go_cut [28] (fun v28 wc => ∃ (kq : Nat) (x28_5 : Bool), v28 = .bool x28_5 ∧ Aside0 (word_times.j0 kq a0 a1 t102 x28_5 = some (r1, r2)) ∧ Aside0 (kq ≤ k) ∧ Aside0 (Below w.heap.size w wc))
  case first =>
    have H := HC6.out
    clear HC6
    by_cases c7 : t101 > 0
    · rw [if_pos c7] at H
      have c7b0 : decide (0 < t101) = true := decide_eq_true c7
      clear c7
      (first | rw [c7b0] | (simp only [i64_w, i32_w]; rw [c7b0]) | skip)
      have H' := Aside0.mk H
      clear H
      go_wp2
      go_meet
      case rel => exact ⟨_, (true), (by first | rfl | (simp; done) | (simp [*]; done)), H', ⟨by first | omega | exact Nat.le_refl _⟩, ⟨by repeat (first | (with_reducible first | exact HB.out | apply below_alloc | apply pw_below_drewN | apply below_drew1) | exact HB.out)⟩⟩
    · rw [if_neg c7] at H
      have c7b0 : decide (0 < t101) = false := decide_eq_false c7
      clear c7
      (first | rw [c7b0] | (simp only [i64_w, i32_w]; rw [c7b0]) | skip)
      have H' := Aside0.mk H
      clear H
      go_wp2
      go_meet
      case rel => exact ⟨_, (decide (t102 ≥ 1099511627776)), (by first | rfl | (simp; done) | (simp [*]; done)), H', ⟨by first | omega | exact Nat.le_refl _⟩, ⟨by repeat (first | (with_reducible first | exact HB.out | apply below_alloc | apply pw_below_drewN | apply below_drew1) | exact HB.out)⟩⟩
  case rest =>
    clear HC6
    try clear c2
    try clear p2
    try clear p6
    try clear c7
    try clear c7b0
    obtain ⟨kq, x28_5, rfl, HA, HJ5, HB⟩ := hcut
    cases kq with
    | zero => exact absurd HA.out (by simp [word_times.j0])
    | succ kj5 =>
      have H := HA.out
      clear HA
      simp only [word_times.j0] at H
      by_cases c8 : x28_5 = true
      · subst c8
        have H1 : (some (0, 10)) = some (r1, r2) := by rw [if_pos rfl] at H; exact H
        clear H
        have H := H1
        clear H1
        simp only [Option.some.injEq, Prod.mk.injEq] at H
        obtain ⟨rfl, rfl⟩ := H
        go_wp2
        go_ret2
        exact ⟨by first | rfl | (simp [errW_none, errW_some] <;> rfl) | (simp only [← hji3, ← hji4]; first | rfl | (simp [errW_none, errW_some] <;> rfl)) | (simp [*, errW_none, errW_some] <;> rfl), by repeat (first | (with_reducible first | exact HB.out | apply below_alloc | apply pw_below_drewN | apply below_drew1) | exact HB.out)⟩
      · replace c8 := Bool.eq_false_iff.mpr c8
        subst c8
        have H1 : (if ((decide (a0 < 0)) != (decide (a1 < 0))) = true then ((word_Int.f (wrap64 (-(wrap64 (t102))))).bind fun bt103 => (some (bt103.1, bt103.2))) else ((word_Int.f (wrap64 (t102))).bind fun bt105 => (some (bt105.1, bt105.2)))) = some (r1, r2) := by rw [if_neg (show ¬ (false = true) by decide)] at H; exact H
        clear H
        have H := H1
        clear H1
        by_cases c9 : ((decide (a0 < 0)) != (decide (a1 < 0))) = true
        · rw [if_pos c9] at H
          have c9b0 : ((decide (a0 < 0)) != (decide (a1 < 0))) = true := c9
          (try (have c9b1 : decide ((decide (a0 < 0)) = (decide (a1 < 0))) = false := by simpa using c9))
          (try (have c9b2 : ((decide (a0 < 0)) == (decide (a1 < 0))) = false := by simpa using c9))
          (try (have c9b3 : ¬ ((decide (a0 < 0)) = (decide (a1 < 0))) := by simpa using c9))
          clear c9
          replace H := Option.bind_eq_some_iff.mp H
          obtain ⟨⟨t103, t104⟩, A100, H⟩ := H
          replace H : (some (t103, t104)) = some (r1, r2) := H
          have A10 := Aside0.mk A100
          clear A100
          simp only [Option.some.injEq, Prod.mk.injEq] at H
          obtain ⟨rfl, rfl⟩ := H
          go_wp2_with (first | ((with_reducible refine gate_callee (f := 14) rfl ?_); refine goesL_ (some 39) rfl rfl Try.func14 (by kernel_rfl) rfl #[.int .i64 (wrap64 (-(wrap64 (t102))))] rfl (by (try simp only [List.map_toArray, List.map_cons, List.map_nil]); first | done | rfl | (simp only [List.length_drop, List.length_take]; rfl)) ?_; (with_reducible refine (word_Int.calls (wrap64 (-(wrap64 (t102)))) t103 t104 _ A10.out).mono ?_); rintro e w' ⟨rfl, ⟨nd, rfl⟩⟩; refine ⟨_, rfl, ?_⟩))
          go_ret2
          exact ⟨by first | rfl | (simp [errW_none, errW_some] <;> rfl) | (simp only [← hji3, ← hji4]; first | rfl | (simp [errW_none, errW_some] <;> rfl)) | (simp [*, errW_none, errW_some] <;> rfl), by repeat (first | (with_reducible first | exact HB.out | apply below_alloc | apply pw_below_drewN | apply below_drew1) | exact HB.out)⟩
        · rw [if_neg c9] at H
          have c9b0 : ((decide (a0 < 0)) != (decide (a1 < 0))) = false := by simpa using c9
          (try (have c9b1 : decide ((decide (a0 < 0)) = (decide (a1 < 0))) = true := by simpa using c9))
          (try (have c9b2 : ((decide (a0 < 0)) == (decide (a1 < 0))) = true := by simpa using c9))
          clear c9
          replace H := Option.bind_eq_some_iff.mp H
          obtain ⟨⟨t105, t106⟩, A110, H⟩ := H
          replace H : (some (t105, t106)) = some (r1, r2) := H
          have A11 := Aside0.mk A110
          clear A110
          simp only [Option.some.injEq, Prod.mk.injEq] at H
          obtain ⟨rfl, rfl⟩ := H
          go_wp2_with (first | ((with_reducible refine gate_callee (f := 14) rfl ?_); refine goesL_ (some 39) rfl rfl Try.func14 (by kernel_rfl) rfl #[.int .i64 (wrap64 (t102))] rfl (by (try simp only [List.map_toArray, List.map_cons, List.map_nil]); first | done | rfl | (simp only [List.length_drop, List.length_take]; rfl)) ?_; (with_reducible refine (word_Int.calls (wrap64 (t102)) t105 t106 _ A11.out).mono ?_); rintro e w' ⟨rfl, ⟨nd, rfl⟩⟩; refine ⟨_, rfl, ?_⟩))
          go_ret2
          exact ⟨by first | rfl | (simp [errW_none, errW_some] <;> rfl) | (simp only [← hji3, ← hji4]; first | rfl | (simp [errW_none, errW_some] <;> rfl)) | (simp [*, errW_none, errW_some] <;> rfl), by repeat (first | (with_reducible first | exact HB.out | apply below_alloc | apply pw_below_drewN | apply below_drew1) | exact HB.out)⟩

/-! ### word_Do: function 11 -/
mutual
def word_Do.j0 : Nat → Int → Int → Int → Option (Int × Int)
  | 0, _, _, _ => none
  | k + 1, x0, x1, x2 => (word_ToInt.f x1).bind fun bt107 => ((word_ToInt.f x2).bind fun bt109 => (if bt107.2 = true then (word_Do.j1 k x0 bt107.1 bt109.1 (!bt109.2)) else (word_Do.j1 k x0 bt107.1 bt109.1 true)))
def word_Do.j2 : Nat → Int → Int → Int → Option (Int × Int)
  | 0, _, _, _ => none
  | k + 1, x0, x8, x10 => if x0 = 43 then ((word_Int.f (wrap64 (x8 + x10))).bind fun bt111 => (some (bt111.1, bt111.2))) else (if x0 = 45 then ((word_Int.f (wrap64 (x8 - x10))).bind fun bt113 => (some (bt113.1, bt113.2))) else (if x0 = 42 then ((word_times.f k x8 x10).bind fun bt115 => (some (bt115.1, bt115.2))) else (if x0 = 47 then (if x10 = 0 then (none) else ((word_Int.f (wrap64 (Int.tdiv x8 x10))).bind fun bt117 => (some (bt117.1, bt117.2)))) else (if x0 = 37 then (if x10 = 0 then (none) else ((word_Int.f (Int.tmod x8 x10)).bind fun bt119 => (some (bt119.1, bt119.2)))) else (if x0 = 60 then ((word_Bool.f (decide (x8 < x10))).bind fun t121 => (some (t121, 0))) else ((word_Bool.f (x8 == x10)).bind fun t122 => (some (t122, 0))))))))
def word_Do.j1 : Nat → Int → Int → Int → Bool → Option (Int × Int)
  | 0, _, _, _, _ => none
  | k + 1, x0, x8, x10, x31 => if x31 = true then (some (0, 11)) else (if x10 = 0 then (if x0 = 47 then (some (0, 12)) else (if x0 = 37 then (some (0, 12)) else (word_Do.j2 k x0 x8 x10))) else (word_Do.j2 k x0 x8 x10))
end
def word_Do.f (k : Nat) (a0 : Int) (a1 : Int) (a2 : Int) : Option (Int × Int) := if a0 = 43 then (word_Do.j0 k a0 a1 a2) else (if a0 = 45 then (word_Do.j0 k a0 a1 a2) else (if a0 = 42 then (word_Do.j0 k a0 a1 a2) else (if a0 = 47 then (word_Do.j0 k a0 a1 a2) else (if a0 = 37 then (word_Do.j0 k a0 a1 a2) else (if a0 = 60 then (word_Do.j0 k a0 a1 a2) else (if a0 = 61 then (word_Do.j0 k a0 a1 a2) else (some (0, 1))))))))
theorem word_Do.mono_l : ∀ k, (∀ y0 y1 y2, LeO (word_Do.j0 k y0 y1 y2) (word_Do.j0 (k + 1) y0 y1 y2)) ∧ (∀ y0 y1 y2, LeO (word_Do.j2 k y0 y1 y2) (word_Do.j2 (k + 1) y0 y1 y2)) ∧ (∀ y0 y1 y2 y3, LeO (word_Do.j1 k y0 y1 y2 y3) (word_Do.j1 (k + 1) y0 y1 y2 y3))
  | 0 => ⟨fun _ _ _ r h => by simp [word_Do.j0] at h, fun _ _ _ r h => by simp [word_Do.j2] at h, fun _ _ _ _ r h => by simp [word_Do.j1] at h⟩
  | k + 1 => by
    obtain ⟨ih0, ih1, ih2⟩ := word_Do.mono_l k
    refine ⟨?_, ?_, ?_⟩
    · intro y0 y1 y2
      unfold word_Do.j0
      repeat' first
      | (with_reducible exact ih0 _ _ _)
      | (with_reducible exact ih1 _ _ _)
      | (with_reducible exact ih2 _ _ _ _)
      | (with_reducible exact word_times.mono _ _ _)
      | (with_reducible exact LeO.refl _)
      | (with_reducible exact LeO.none _)
      | (with_reducible refine LeO.ite ?_ ?_)
      | (with_reducible refine LeO.bind ?_ (fun _ => ?_))
      | exact ih0 _ _ _
      | exact ih1 _ _ _
      | exact ih2 _ _ _ _
      | exact word_times.mono _ _ _
      | exact LeO.none _
      | refine LeO.ite ?_ ?_
      | refine LeO.bind ?_ (fun _ => ?_)
    · intro y0 y1 y2
      unfold word_Do.j2
      repeat' first
      | (with_reducible exact ih0 _ _ _)
      | (with_reducible exact ih1 _ _ _)
      | (with_reducible exact ih2 _ _ _ _)
      | (with_reducible exact word_times.mono _ _ _)
      | (with_reducible exact LeO.refl _)
      | (with_reducible exact LeO.none _)
      | (with_reducible refine LeO.ite ?_ ?_)
      | (with_reducible refine LeO.bind ?_ (fun _ => ?_))
      | exact ih0 _ _ _
      | exact ih1 _ _ _
      | exact ih2 _ _ _ _
      | exact word_times.mono _ _ _
      | exact LeO.none _
      | refine LeO.ite ?_ ?_
      | refine LeO.bind ?_ (fun _ => ?_)
    · intro y0 y1 y2 y3
      unfold word_Do.j1
      repeat' first
      | (with_reducible exact ih0 _ _ _)
      | (with_reducible exact ih1 _ _ _)
      | (with_reducible exact ih2 _ _ _ _)
      | (with_reducible exact word_times.mono _ _ _)
      | (with_reducible exact LeO.refl _)
      | (with_reducible exact LeO.none _)
      | (with_reducible refine LeO.ite ?_ ?_)
      | (with_reducible refine LeO.bind ?_ (fun _ => ?_))
      | exact ih0 _ _ _
      | exact ih1 _ _ _
      | exact ih2 _ _ _ _
      | exact word_times.mono _ _ _
      | exact LeO.none _
      | refine LeO.ite ?_ ?_
      | refine LeO.bind ?_ (fun _ => ?_)
theorem word_Do.mono : ∀ a0 a1 a2 k, LeO (word_Do.f k a0 a1 a2) (word_Do.f (k + 1) a0 a1 a2) := by
  intro a0 a1 a2 k
  obtain ⟨ih0, ih1, ih2⟩ := word_Do.mono_l k
  unfold word_Do.f
  repeat' first
      | (with_reducible exact ih0 _ _ _)
      | (with_reducible exact ih1 _ _ _)
      | (with_reducible exact ih2 _ _ _ _)
      | (with_reducible exact word_times.mono _ _ _)
      | (with_reducible exact LeO.refl _)
      | (with_reducible exact LeO.none _)
      | (with_reducible refine LeO.ite ?_ ?_)
      | (with_reducible refine LeO.bind ?_ (fun _ => ?_))
      | exact ih0 _ _ _
      | exact ih1 _ _ _
      | exact ih2 _ _ _ _
      | exact word_times.mono _ _ _
      | exact LeO.none _
      | refine LeO.ite ?_ ?_
      | refine LeO.bind ?_ (fun _ => ?_)
set_option maxHeartbeats 8000000 in
set_option maxRecDepth 100000 in
theorem word_Do.calls (k : Nat) (a0 : Int) (a1 : Int) (a2 : Int) (r1 : Int) (r2 : Int) (w : World) (h : word_Do.f k a0 a1 a2 = some (r1, r2)) :
    Calls Try.prog 11 #[.int .u8 a0, .int .u64 a1, .int .u64 a2] w fun e w' => e = .returned (.tuple #[.int .u64 r1, .int .i64 r2]) ∧ Below w.heap.size w w' := by
  have HB := Aside0.mk (Below.refl w.heap.size w)
  have H : (if a0 = 43 then (word_Do.j0 k a0 a1 a2) else (if a0 = 45 then (word_Do.j0 k a0 a1 a2) else (if a0 = 42 then (word_Do.j0 k a0 a1 a2) else (if a0 = 47 then (word_Do.j0 k a0 a1 a2) else (if a0 = 37 then (word_Do.j0 k a0 a1 a2) else (if a0 = 60 then (word_Do.j0 k a0 a1 a2) else (if a0 = 61 then (word_Do.j0 k a0 a1 a2) else (some (0, 1))))))))) = some (r1, r2) := h
  clear h
  have HC4 := Aside0.mk H
  clear H
  go_enter Try.func11, Try.ntmps11
  go_upto_block 0 with (fail)
  go_cut [] (fun wc => ∃ (kq : Nat), Aside0 (word_Do.j0 kq a0 a1 a2 = some (r1, r2)) ∧ Aside0 (kq ≤ k) ∧ Aside0 (Below w.heap.size w wc))
  case first =>
    have H := HC4.out
    clear HC4
    by_cases c5 : a0 = 43
    · rw [if_pos c5] at H
      have c5b0 : (a0 == 43) = true := beq_iff_eq.mpr c5
      have c5b1 : (a0 != 43) = false := bne_eq_false_iff_eq.mpr c5
      clear c5
      (first | rw [c5b0] | (simp only [i64_w, i32_w]; rw [c5b0]) | skip)
      have H' := Aside0.mk H
      clear H
      go_wp2
      go_meet
      case rel => exact ⟨_, H', ⟨by first | omega | exact Nat.le_refl _⟩, ⟨by repeat (first | (with_reducible first | exact HB.out | apply below_alloc | apply pw_below_drewN | apply below_drew1) | exact HB.out)⟩⟩
    · rw [if_neg c5] at H
      have c5b0 : (a0 == 43) = false := beq_eq_false_iff_ne.mpr c5
      have c5b1 : (a0 != 43) = true := bne_iff_ne.mpr c5
      (first | rw [c5b0] | (simp only [i64_w, i32_w]; rw [c5b0]) | skip)
      by_cases c6 : a0 = 45
      · rw [if_pos c6] at H
        have c6b0 : (a0 == 45) = true := beq_iff_eq.mpr c6
        have c6b1 : (a0 != 45) = false := bne_eq_false_iff_eq.mpr c6
        clear c6
        have H' := Aside0.mk H
        clear H
        go_wp2
        go_meet
        case rel => exact ⟨_, H', ⟨by first | omega | exact Nat.le_refl _⟩, ⟨by repeat (first | (with_reducible first | exact HB.out | apply below_alloc | apply pw_below_drewN | apply below_drew1) | exact HB.out)⟩⟩
      · rw [if_neg c6] at H
        have c6b0 : (a0 == 45) = false := beq_eq_false_iff_ne.mpr c6
        have c6b1 : (a0 != 45) = true := bne_iff_ne.mpr c6
        by_cases c7 : a0 = 42
        · rw [if_pos c7] at H
          have c7b0 : (a0 == 42) = true := beq_iff_eq.mpr c7
          have c7b1 : (a0 != 42) = false := bne_eq_false_iff_eq.mpr c7
          clear c7
          have H' := Aside0.mk H
          clear H
          go_wp2
          go_meet
          case rel => exact ⟨_, H', ⟨by first | omega | exact Nat.le_refl _⟩, ⟨by repeat (first | (with_reducible first | exact HB.out | apply below_alloc | apply pw_below_drewN | apply below_drew1) | exact HB.out)⟩⟩
        · rw [if_neg c7] at H
          have c7b0 : (a0 == 42) = false := beq_eq_false_iff_ne.mpr c7
          have c7b1 : (a0 != 42) = true := bne_iff_ne.mpr c7
          by_cases c8 : a0 = 47
          · rw [if_pos c8] at H
            have c8b0 : (a0 == 47) = true := beq_iff_eq.mpr c8
            have c8b1 : (a0 != 47) = false := bne_eq_false_iff_eq.mpr c8
            clear c8
            have H' := Aside0.mk H
            clear H
            go_wp2
            go_meet
            case rel => exact ⟨_, H', ⟨by first | omega | exact Nat.le_refl _⟩, ⟨by repeat (first | (with_reducible first | exact HB.out | apply below_alloc | apply pw_below_drewN | apply below_drew1) | exact HB.out)⟩⟩
          · rw [if_neg c8] at H
            have c8b0 : (a0 == 47) = false := beq_eq_false_iff_ne.mpr c8
            have c8b1 : (a0 != 47) = true := bne_iff_ne.mpr c8
            by_cases c9 : a0 = 37
            · rw [if_pos c9] at H
              have c9b0 : (a0 == 37) = true := beq_iff_eq.mpr c9
              have c9b1 : (a0 != 37) = false := bne_eq_false_iff_eq.mpr c9
              clear c9
              have H' := Aside0.mk H
              clear H
              go_wp2
              go_meet
              case rel => exact ⟨_, H', ⟨by first | omega | exact Nat.le_refl _⟩, ⟨by repeat (first | (with_reducible first | exact HB.out | apply below_alloc | apply pw_below_drewN | apply below_drew1) | exact HB.out)⟩⟩
            · rw [if_neg c9] at H
              have c9b0 : (a0 == 37) = false := beq_eq_false_iff_ne.mpr c9
              have c9b1 : (a0 != 37) = true := bne_iff_ne.mpr c9
              by_cases c10 : a0 = 60
              · rw [if_pos c10] at H
                have c10b0 : (a0 == 60) = true := beq_iff_eq.mpr c10
                have c10b1 : (a0 != 60) = false := bne_eq_false_iff_eq.mpr c10
                clear c10
                have H' := Aside0.mk H
                clear H
                go_wp2
                go_meet
                case rel => exact ⟨_, H', ⟨by first | omega | exact Nat.le_refl _⟩, ⟨by repeat (first | (with_reducible first | exact HB.out | apply below_alloc | apply pw_below_drewN | apply below_drew1) | exact HB.out)⟩⟩
              · rw [if_neg c10] at H
                have c10b0 : (a0 == 60) = false := beq_eq_false_iff_ne.mpr c10
                have c10b1 : (a0 != 60) = true := bne_iff_ne.mpr c10
                by_cases c11 : a0 = 61
                · rw [if_pos c11] at H
                  have c11b0 : (a0 == 61) = true := beq_iff_eq.mpr c11
                  have c11b1 : (a0 != 61) = false := bne_eq_false_iff_eq.mpr c11
                  clear c11
                  have H' := Aside0.mk H
                  clear H
                  go_wp2
                  go_meet
                  case rel => exact ⟨_, H', ⟨by first | omega | exact Nat.le_refl _⟩, ⟨by repeat (first | (with_reducible first | exact HB.out | apply below_alloc | apply pw_below_drewN | apply below_drew1) | exact HB.out)⟩⟩
                · rw [if_neg c11] at H
                  have c11b0 : (a0 == 61) = false := beq_eq_false_iff_ne.mpr c11
                  have c11b1 : (a0 != 61) = true := bne_iff_ne.mpr c11
                  simp only [Option.some.injEq, Prod.mk.injEq] at H
                  obtain ⟨rfl, rfl⟩ := H
                  go_wp2
                  go_ret2
                  exact ⟨by first | rfl | (simp [errW_none, errW_some] <;> rfl) | (simp [*, errW_none, errW_some] <;> rfl), by repeat (first | (with_reducible first | exact HB.out | apply below_alloc | apply pw_below_drewN | apply below_drew1) | exact HB.out)⟩
  case rest =>
    clear HC4
    try clear c1
    try clear p2
    try clear c5
    try clear c5b0
    try clear c5b1
    try clear c6
    try clear c6b0
    try clear c6b1
    try clear c7
    try clear c7b0
    try clear c7b1
    try clear c8
    try clear c8b0
    try clear c8b1
    try clear c9
    try clear c9b0
    try clear c9b1
    try clear c10
    try clear c10b0
    try clear c10b1
    try clear c11
    try clear c11b0
    try clear c11b1
    obtain ⟨kq, HA, HJ3, HB⟩ := hcut
    cases kq with
    | zero => exact absurd HA.out (by simp [word_Do.j0])
    | succ kj3 =>
      have H := HA.out
      clear HA
      simp only [word_Do.j0] at H
      replace H := Option.bind_eq_some_iff.mp H
      obtain ⟨⟨t107, t108⟩, A120, H⟩ := H
      replace H : ((word_ToInt.f a2).bind fun bt109 => (if t108 = true then (word_Do.j1 kj3 a0 t107 bt109.1 (!bt109.2)) else (word_Do.j1 kj3 a0 t107 bt109.1 true))) = some (r1, r2) := H
      have A12 := Aside0.mk A120
      clear A120
      replace H := Option.bind_eq_some_iff.mp H
      obtain ⟨⟨t109, t110⟩, A130, H⟩ := H
      replace H : (if t108 = true then (word_Do.j1 kj3 a0 t107 t109 (!t110)) else (word_Do.j1 kj3 a0 t107 t109 true)) = some (r1, r2) := H
      have A13 := Aside0.mk A130
      clear A130
      have HC14 := Aside0.mk H
      clear H
      go_upto_block 1 with (first | ((with_reducible refine gate_callee (f := 15) rfl ?_); refine goesL_ (some 23) rfl rfl Try.func15 (by kernel_rfl) rfl #[.int .u64 a1] rfl (by (try simp only [List.map_toArray, List.map_cons, List.map_nil]); first | done | rfl | (simp only [List.length_drop, List.length_take]; rfl)) ?_; (with_reducible refine (word_ToInt.calls a1 t107 t108 _ A12.out).mono ?_); rintro e w' ⟨rfl, ⟨nd, rfl⟩⟩; refine ⟨_, rfl, ?_⟩) | ((with_reducible refine gate_callee (f := 15) rfl ?_); refine goesL_ (some 28) rfl rfl Try.func15 (by kernel_rfl) rfl #[.int .u64 a2] rfl (by (try simp only [List.map_toArray, List.map_cons, List.map_nil]); first | done | rfl | (simp only [List.length_drop, List.length_take]; rfl)) ?_; (with_reducible refine (word_ToInt.calls a2 t109 t110 _ A13.out).mono ?_); rintro e w' ⟨rfl, ⟨nd, rfl⟩⟩; refine ⟨_, rfl, ?_⟩))
      (try simp only [Act.put, List.setIfInBounds_toArray, List.set_cons_zero, List.set_cons_succ])
      go_cut [] (fun wc => ∃ (kq : Nat), Aside0 (word_Do.j2 kq a0 t107 t109 = some (r1, r2)) ∧ Aside0 (kq ≤ kj3) ∧ Aside0 (Below w.heap.size w wc))
      case first =>
        have H := HC14.out
        clear HC14
        have HC15 := Aside0.mk H
        clear H
        go_upto_region 12 with (fail)
        go_cut [31] (fun v31 wc => ∃ (kq : Nat) (x31_14 : Bool), v31 = .bool x31_14 ∧ Aside0 (word_Do.j1 kq a0 t107 t109 x31_14 = some (r1, r2)) ∧ Aside0 (kq ≤ kj3) ∧ Aside0 (Below w.heap.size w wc))
        case first =>
          have H := HC15.out
          clear HC15
          by_cases c16 : t108 = true
          · subst c16
            have H1 : (word_Do.j1 kj3 a0 t107 t109 (!t110)) = some (r1, r2) := by rw [if_pos rfl] at H; exact H
            clear H
            have H := H1
            clear H1
            have H' := Aside0.mk H
            clear H
            go_wp2
            go_meet
            case rel => exact ⟨_, (!t110), (by first | rfl | (simp; done) | (simp [*]; done)), H', ⟨by have := HJ3.out; first | omega | exact Nat.le_refl _⟩, ⟨by repeat (first | (with_reducible first | exact HB.out | apply below_alloc | apply pw_below_drewN | apply below_drew1) | exact HB.out)⟩⟩
          · replace c16 := Bool.eq_false_iff.mpr c16
            subst c16
            have H1 : (word_Do.j1 kj3 a0 t107 t109 true) = some (r1, r2) := by rw [if_neg (show ¬ (false = true) by decide)] at H; exact H
            clear H
            have H := H1
            clear H1
            have H' := Aside0.mk H
            clear H
            go_wp2
            go_meet
            case rel => exact ⟨_, (true), (by first | rfl | (simp; done) | (simp [*]; done)), H', ⟨by have := HJ3.out; first | omega | exact Nat.le_refl _⟩, ⟨by repeat (first | (with_reducible first | exact HB.out | apply below_alloc | apply pw_below_drewN | apply below_drew1) | exact HB.out)⟩⟩
        case rest =>
          clear HC15
          try clear c1
          try clear p2
          try clear c5
          try clear c5b0
          try clear c5b1
          try clear c6
          try clear c6b0
          try clear c6b1
          try clear c7
          try clear c7b0
          try clear c7b1
          try clear c8
          try clear c8b0
          try clear c8b1
          try clear c9
          try clear c9b0
          try clear c9b1
          try clear c10
          try clear c10b0
          try clear c10b1
          try clear c11
          try clear c11b0
          try clear c11b1
          try clear c15
          try clear c16
          try clear p2
          obtain ⟨kq, x31_14, rfl, HA, HJ14, HB⟩ := hcut
          cases kq with
          | zero => exact absurd HA.out (by simp [word_Do.j1])
          | succ kj14 =>
            have H := HA.out
            clear HA
            simp only [word_Do.j1] at H
            by_cases c17 : x31_14 = true
            · subst c17
              have H1 : (some (0, 11)) = some (r1, r2) := by rw [if_pos rfl] at H; exact H
              clear H
              have H := H1
              clear H1
              simp only [Option.some.injEq, Prod.mk.injEq] at H
              obtain ⟨rfl, rfl⟩ := H
              go_wp2
              go_ret2
              exact ⟨by first | rfl | (simp [errW_none, errW_some] <;> rfl) | (simp [*, errW_none, errW_some] <;> rfl), by repeat (first | (with_reducible first | exact HB.out | apply below_alloc | apply pw_below_drewN | apply below_drew1) | exact HB.out)⟩
            · replace c17 := Bool.eq_false_iff.mpr c17
              subst c17
              have H1 : (if t109 = 0 then (if a0 = 47 then (some (0, 12)) else (if a0 = 37 then (some (0, 12)) else (word_Do.j2 kj14 a0 t107 t109))) else (word_Do.j2 kj14 a0 t107 t109)) = some (r1, r2) := by rw [if_neg (show ¬ (false = true) by decide)] at H; exact H
              clear H
              have H := H1
              clear H1
              by_cases c18 : t109 = 0
              · rw [if_pos c18] at H
                have c18b0 : (t109 == 0) = true := beq_iff_eq.mpr c18
                have c18b1 : (t109 != 0) = false := bne_eq_false_iff_eq.mpr c18
                clear c18
                by_cases c19 : a0 = 47
                · rw [if_pos c19] at H
                  have c19b0 : (a0 == 47) = true := beq_iff_eq.mpr c19
                  have c19b1 : (a0 != 47) = false := bne_eq_false_iff_eq.mpr c19
                  clear c19
                  simp only [Option.some.injEq, Prod.mk.injEq] at H
                  obtain ⟨rfl, rfl⟩ := H
                  go_wp2
                  go_ret2
                  exact ⟨by first | rfl | (simp [errW_none, errW_some] <;> rfl) | (simp [*, errW_none, errW_some] <;> rfl), by repeat (first | (with_reducible first | exact HB.out | apply below_alloc | apply pw_below_drewN | apply below_drew1) | exact HB.out)⟩
                · rw [if_neg c19] at H
                  have c19b0 : (a0 == 47) = false := beq_eq_false_iff_ne.mpr c19
                  have c19b1 : (a0 != 47) = true := bne_iff_ne.mpr c19
                  by_cases c20 : a0 = 37
                  · rw [if_pos c20] at H
                    have c20b0 : (a0 == 37) = true := beq_iff_eq.mpr c20
                    have c20b1 : (a0 != 37) = false := bne_eq_false_iff_eq.mpr c20
                    clear c20
                    simp only [Option.some.injEq, Prod.mk.injEq] at H
                    obtain ⟨rfl, rfl⟩ := H
                    go_wp2
                    go_ret2
                    exact ⟨by first | rfl | (simp [errW_none, errW_some] <;> rfl) | (simp [*, errW_none, errW_some] <;> rfl), by repeat (first | (with_reducible first | exact HB.out | apply below_alloc | apply pw_below_drewN | apply below_drew1) | exact HB.out)⟩
                  · rw [if_neg c20] at H
                    have c20b0 : (a0 == 37) = false := beq_eq_false_iff_ne.mpr c20
                    have c20b1 : (a0 != 37) = true := bne_iff_ne.mpr c20
                    have H' := Aside0.mk H
                    clear H
                    go_wp2
                    go_meet
                    case rel => exact ⟨_, H', ⟨by have := HJ3.out; have := HJ14.out; first | omega | exact Nat.le_refl _⟩, ⟨by repeat (first | (with_reducible first | exact HB.out | apply below_alloc | apply pw_below_drewN | apply below_drew1) | exact HB.out)⟩⟩
              · rw [if_neg c18] at H
                have c18b0 : (t109 == 0) = false := beq_eq_false_iff_ne.mpr c18
                have c18b1 : (t109 != 0) = true := bne_iff_ne.mpr c18
                have H' := Aside0.mk H
                clear H
                go_wp2
                go_meet
                case rel => exact ⟨_, H', ⟨by have := HJ3.out; have := HJ14.out; first | omega | exact Nat.le_refl _⟩, ⟨by repeat (first | (with_reducible first | exact HB.out | apply below_alloc | apply pw_below_drewN | apply below_drew1) | exact HB.out)⟩⟩
      case rest =>
        clear HC14
        try clear c1
        try clear c2
        try clear p2
        try clear c5
        try clear c5b0
        try clear c5b1
        try clear c6
        try clear c6b0
        try clear c6b1
        try clear c7
        try clear c7b0
        try clear c7b1
        try clear c8
        try clear c8b0
        try clear c8b1
        try clear c9
        try clear c9b0
        try clear c9b1
        try clear c10
        try clear c10b0
        try clear c10b1
        try clear c11
        try clear c11b0
        try clear c11b1
        try clear c15
        try clear c16
        try clear c17
        try clear c18
        try clear c18b0
        try clear c18b1
        try clear c19
        try clear c19b0
        try clear c19b1
        try clear c20
        try clear c20b0
        try clear c20b1
        try clear p2
        obtain ⟨kq, HA, HJ13, HB⟩ := hcut
        cases kq with
        | zero => exact absurd HA.out (by simp [word_Do.j2])
        | succ kj13 =>
          have H := HA.out
          clear HA
          simp only [word_Do.j2] at H
          by_cases c21 : a0 = 43
          · rw [if_pos c21] at H
            have c21b0 : (a0 == 43) = true := beq_iff_eq.mpr c21
            have c21b1 : (a0 != 43) = false := bne_eq_false_iff_eq.mpr c21
            clear c21
            replace H := Option.bind_eq_some_iff.mp H
            obtain ⟨⟨t111, t112⟩, A220, H⟩ := H
            replace H : (some (t111, t112)) = some (r1, r2) := H
            have A22 := Aside0.mk A220
            clear A220
            simp only [Option.some.injEq, Prod.mk.injEq] at H
            obtain ⟨rfl, rfl⟩ := H
            go_wp2_with (first | ((with_reducible refine gate_callee (f := 14) rfl ?_); refine goesL_ (some 55) rfl rfl Try.func14 (by kernel_rfl) rfl #[.int .i64 (wrap64 (t107 + t109))] rfl (by (try simp only [List.map_toArray, List.map_cons, List.map_nil]); first | done | rfl | (simp only [List.length_drop, List.length_take]; rfl)) ?_; (with_reducible refine (word_Int.calls (wrap64 (t107 + t109)) t111 t112 _ A22.out).mono ?_); rintro e w' ⟨rfl, ⟨nd, rfl⟩⟩; refine ⟨_, rfl, ?_⟩))
            go_ret2
            exact ⟨by first | rfl | (simp [errW_none, errW_some] <;> rfl) | (simp [*, errW_none, errW_some] <;> rfl), by repeat (first | (with_reducible first | exact HB.out | apply below_alloc | apply pw_below_drewN | apply below_drew1) | exact HB.out)⟩
          · rw [if_neg c21] at H
            have c21b0 : (a0 == 43) = false := beq_eq_false_iff_ne.mpr c21
            have c21b1 : (a0 != 43) = true := bne_iff_ne.mpr c21
            by_cases c23 : a0 = 45
            · rw [if_pos c23] at H
              have c23b0 : (a0 == 45) = true := beq_iff_eq.mpr c23
              have c23b1 : (a0 != 45) = false := bne_eq_false_iff_eq.mpr c23
              clear c23
              replace H := Option.bind_eq_some_iff.mp H
              obtain ⟨⟨t113, t114⟩, A240, H⟩ := H
              replace H : (some (t113, t114)) = some (r1, r2) := H
              have A24 := Aside0.mk A240
              clear A240
              simp only [Option.some.injEq, Prod.mk.injEq] at H
              obtain ⟨rfl, rfl⟩ := H
              go_wp2_with (first | ((with_reducible refine gate_callee (f := 14) rfl ?_); refine goesL_ (some 63) rfl rfl Try.func14 (by kernel_rfl) rfl #[.int .i64 (wrap64 (t107 - t109))] rfl (by (try simp only [List.map_toArray, List.map_cons, List.map_nil]); first | done | rfl | (simp only [List.length_drop, List.length_take]; rfl)) ?_; (with_reducible refine (word_Int.calls (wrap64 (t107 - t109)) t113 t114 _ A24.out).mono ?_); rintro e w' ⟨rfl, ⟨nd, rfl⟩⟩; refine ⟨_, rfl, ?_⟩))
              go_ret2
              exact ⟨by first | rfl | (simp [errW_none, errW_some] <;> rfl) | (simp [*, errW_none, errW_some] <;> rfl), by repeat (first | (with_reducible first | exact HB.out | apply below_alloc | apply pw_below_drewN | apply below_drew1) | exact HB.out)⟩
            · rw [if_neg c23] at H
              have c23b0 : (a0 == 45) = false := beq_eq_false_iff_ne.mpr c23
              have c23b1 : (a0 != 45) = true := bne_iff_ne.mpr c23
              by_cases c25 : a0 = 42
              · rw [if_pos c25] at H
                have c25b0 : (a0 == 42) = true := beq_iff_eq.mpr c25
                have c25b1 : (a0 != 42) = false := bne_eq_false_iff_eq.mpr c25
                clear c25
                replace H := Option.bind_eq_some_iff.mp H
                obtain ⟨⟨t115, t116⟩, A260, H⟩ := H
                replace H : (some (t115, t116)) = some (r1, r2) := H
                have A26 := Aside0.mk A260
                clear A260
                simp only [Option.some.injEq, Prod.mk.injEq] at H
                obtain ⟨rfl, rfl⟩ := H
                go_wp2_with (first | ((with_reducible refine gate_callee (f := 27) rfl ?_); refine goesL_ (some 70) rfl rfl Try.func27 (by kernel_rfl) rfl #[.int .i64 t107, .int .i64 t109] rfl (by (try simp only [List.map_toArray, List.map_cons, List.map_nil]); first | done | rfl | (simp only [List.length_drop, List.length_take]; rfl)) ?_; (with_reducible refine (word_times.calls kj13 t107 t109 t115 t116 _ A26.out).mono ?_); rintro e w27 ⟨rfl, hb⟩; refine ⟨_, rfl, ?_⟩; have n0_ := Aside0.mk (below_step (by repeat (first | (with_reducible first | exact HB.out | apply below_alloc | apply pw_below_drewN | apply below_drew1) | exact HB.out)) hb); clear HB; have HB := n0_; clear n0_; (try clear hb); (try clear hb2); (try clear hk); (try clear hi)))
                go_ret2
                exact ⟨by first | rfl | (simp [errW_none, errW_some] <;> rfl) | (simp [*, errW_none, errW_some] <;> rfl), by repeat (first | (with_reducible first | exact HB.out | apply below_alloc | apply pw_below_drewN | apply below_drew1) | exact HB.out)⟩
              · rw [if_neg c25] at H
                have c25b0 : (a0 == 42) = false := beq_eq_false_iff_ne.mpr c25
                have c25b1 : (a0 != 42) = true := bne_iff_ne.mpr c25
                by_cases c28 : a0 = 47
                · rw [if_pos c28] at H
                  have c28b0 : (a0 == 47) = true := beq_iff_eq.mpr c28
                  have c28b1 : (a0 != 47) = false := bne_eq_false_iff_eq.mpr c28
                  clear c28
                  by_cases c29 : t109 = 0
                  · rw [if_pos c29] at H
                    exact absurd H (by simp)
                  · rw [if_neg c29] at H
                    have c29b0 : (t109 == 0) = false := beq_eq_false_iff_ne.mpr c29
                    have c29b1 : (t109 != 0) = true := bne_iff_ne.mpr c29
                    replace H := Option.bind_eq_some_iff.mp H
                    obtain ⟨⟨t117, t118⟩, A300, H⟩ := H
                    replace H : (some (t117, t118)) = some (r1, r2) := H
                    have A30 := Aside0.mk A300
                    clear A300
                    simp only [Option.some.injEq, Prod.mk.injEq] at H
                    obtain ⟨rfl, rfl⟩ := H
                    go_wp2_with (first | ((with_reducible refine gate_callee (f := 14) rfl ?_); refine goesL_ (some 78) rfl rfl Try.func14 (by kernel_rfl) rfl #[.int .i64 (wrap64 (Int.tdiv t107 t109))] rfl (by (try simp only [List.map_toArray, List.map_cons, List.map_nil]); first | done | rfl | (simp only [List.length_drop, List.length_take]; rfl)) ?_; (with_reducible refine (word_Int.calls (wrap64 (Int.tdiv t107 t109)) t117 t118 _ A30.out).mono ?_); rintro e w' ⟨rfl, ⟨nd, rfl⟩⟩; refine ⟨_, rfl, ?_⟩))
                    go_ret2
                    exact ⟨by first | rfl | (simp [errW_none, errW_some] <;> rfl) | (simp [*, errW_none, errW_some] <;> rfl), by repeat (first | (with_reducible first | exact HB.out | apply below_alloc | apply pw_below_drewN | apply below_drew1) | exact HB.out)⟩
                · rw [if_neg c28] at H
                  have c28b0 : (a0 == 47) = false := beq_eq_false_iff_ne.mpr c28
                  have c28b1 : (a0 != 47) = true := bne_iff_ne.mpr c28
                  by_cases c31 : a0 = 37
                  · rw [if_pos c31] at H
                    have c31b0 : (a0 == 37) = true := beq_iff_eq.mpr c31
                    have c31b1 : (a0 != 37) = false := bne_eq_false_iff_eq.mpr c31
                    clear c31
                    by_cases c32 : t109 = 0
                    · rw [if_pos c32] at H
                      exact absurd H (by simp)
                    · rw [if_neg c32] at H
                      have c32b0 : (t109 == 0) = false := beq_eq_false_iff_ne.mpr c32
                      have c32b1 : (t109 != 0) = true := bne_iff_ne.mpr c32
                      replace H := Option.bind_eq_some_iff.mp H
                      obtain ⟨⟨t119, t120⟩, A330, H⟩ := H
                      replace H : (some (t119, t120)) = some (r1, r2) := H
                      have A33 := Aside0.mk A330
                      clear A330
                      simp only [Option.some.injEq, Prod.mk.injEq] at H
                      obtain ⟨rfl, rfl⟩ := H
                      go_wp2_with (first | ((with_reducible refine gate_callee (f := 14) rfl ?_); refine goesL_ (some 86) rfl rfl Try.func14 (by kernel_rfl) rfl #[.int .i64 (Int.tmod t107 t109)] rfl (by (try simp only [List.map_toArray, List.map_cons, List.map_nil]); first | done | rfl | (simp only [List.length_drop, List.length_take]; rfl)) ?_; (with_reducible refine (word_Int.calls (Int.tmod t107 t109) t119 t120 _ A33.out).mono ?_); rintro e w' ⟨rfl, ⟨nd, rfl⟩⟩; refine ⟨_, rfl, ?_⟩))
                      go_ret2
                      exact ⟨by first | rfl | (simp [errW_none, errW_some] <;> rfl) | (simp [*, errW_none, errW_some] <;> rfl), by repeat (first | (with_reducible first | exact HB.out | apply below_alloc | apply pw_below_drewN | apply below_drew1) | exact HB.out)⟩
                  · rw [if_neg c31] at H
                    have c31b0 : (a0 == 37) = false := beq_eq_false_iff_ne.mpr c31
                    have c31b1 : (a0 != 37) = true := bne_iff_ne.mpr c31
                    by_cases c34 : a0 = 60
                    · rw [if_pos c34] at H
                      have c34b0 : (a0 == 60) = true := beq_iff_eq.mpr c34
                      have c34b1 : (a0 != 60) = false := bne_eq_false_iff_eq.mpr c34
                      clear c34
                      replace H := Option.bind_eq_some_iff.mp H
                      obtain ⟨t121, A350, H⟩ := H
                      replace H : (some (t121, 0)) = some (r1, r2) := H
                      have A35 := Aside0.mk A350
                      clear A350
                      simp only [Option.some.injEq, Prod.mk.injEq] at H
                      obtain ⟨rfl, rfl⟩ := H
                      go_wp2_with (first | ((with_reducible refine gate_callee (f := 20) rfl ?_); refine goesL_ (some 94) rfl rfl Try.func20 (by kernel_rfl) rfl #[.bool (decide (t107 < t109))] rfl (by (try simp only [List.map_toArray, List.map_cons, List.map_nil]); first | done | rfl | (simp only [List.length_drop, List.length_take]; rfl)) ?_; (with_reducible refine (word_Bool.calls (decide (t107 < t109)) t121 _ A35.out).mono ?_); rintro e w' ⟨rfl, ⟨nd, rfl⟩⟩; refine ⟨_, rfl, ?_⟩))
                      go_ret2
                      exact ⟨by first | rfl | (simp [errW_none, errW_some] <;> rfl) | (simp [*, errW_none, errW_some] <;> rfl), by repeat (first | (with_reducible first | exact HB.out | apply below_alloc | apply pw_below_drewN | apply below_drew1) | exact HB.out)⟩
                    · rw [if_neg c34] at H
                      have c34b0 : (a0 == 60) = false := beq_eq_false_iff_ne.mpr c34
                      have c34b1 : (a0 != 60) = true := bne_iff_ne.mpr c34
                      replace H := Option.bind_eq_some_iff.mp H
                      obtain ⟨t122, A360, H⟩ := H
                      replace H : (some (t122, 0)) = some (r1, r2) := H
                      have A36 := Aside0.mk A360
                      clear A360
                      simp only [Option.some.injEq, Prod.mk.injEq] at H
                      obtain ⟨rfl, rfl⟩ := H
                      go_wp2_with (first | ((with_reducible refine gate_callee (f := 20) rfl ?_); refine goesL_ (some 98) rfl rfl Try.func20 (by kernel_rfl) rfl #[.bool (t107 == t109)] rfl (by (try simp only [List.map_toArray, List.map_cons, List.map_nil]); first | done | rfl | (simp only [List.length_drop, List.length_take]; rfl)) ?_; (with_reducible refine (word_Bool.calls (t107 == t109) t122 _ A36.out).mono ?_); rintro e w' ⟨rfl, ⟨nd, rfl⟩⟩; refine ⟨_, rfl, ?_⟩))
                      go_ret2
                      exact ⟨by first | rfl | (simp [errW_none, errW_some] <;> rfl) | (simp [*, errW_none, errW_some] <;> rfl), by repeat (first | (with_reducible first | exact HB.out | apply below_alloc | apply pw_below_drewN | apply below_drew1) | exact HB.out)⟩

end Go.Proofs.Ytfabipoeollidaa.PWordApart

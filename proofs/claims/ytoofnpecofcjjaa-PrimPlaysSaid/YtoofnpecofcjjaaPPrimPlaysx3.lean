-- PRINTED BY print.sh 35421559b90ae4d0a3588c463048766b98c2df88dd9212a6774a882060cdf62d: not written by this session
import Derived.Test.YtoofnpecofcjjaaPPrimPlaysx0
import Derived.Test.YtoofnpecofcjjaaPPrimPlaysx2
namespace Go.Proofs.Ytoofnpecofcjjaa.PPrimPlays
open Go.RowKit Go.Proofs.YtoofnpecofcjjaaW.PrintWords Go.Proofs.YtoofnpecofcjjaaW.PrintLast Go.Proofs.YtoofnpecofcjjaaW.PrintMore
attribute [local go_sem] max2_int min2_int max_two min_two max_three min_three max_four min_four   -- for this text's walks alone
set_option linter.unusedVariables false
set_option linter.unusedSimpArgs false

/-! ### eddywheelref01_product: function 39 -/
mutual
def eddywheelref01_product.j0 : Nat → Int → Int → Int → Int → Int → Option (Int)
  | 0, _, _, _, _, _ => none
  | k + 1, x0, x1, x5, x6, x7 => if x7 < 0 then (eddywheelref01_product.j1 k x0 x1 x5 x6 (wrap64 (-x7))) else (eddywheelref01_product.j1 k x0 x1 x5 x6 x7)
def eddywheelref01_product.j1 : Nat → Int → Int → Int → Int → Int → Option (Int)
  | 0, _, _, _, _, _ => none
  | k + 1, x0, x1, x5, x6, x7 => eddywheelref01_product.l0 k x0 x1 x5 x6 x7
def eddywheelref01_product.l0 : Nat → Int → Int → Int → Int → Int → Option (Int)
  | 0, _, _, _, _, _ => none
  | k + 1, x0, x1, x5, x6, x7 => if x7 > 0 then (if (Int.tmod x7 2) = 1 then (eddywheelref01_product.l0 k x0 x1 (mn (wrap64 (x5 + x6)) 1099511627776) (mn (wrap64 (x6 + x6)) 1099511627776) (wrap64 (Int.tdiv x7 2))) else (eddywheelref01_product.l0 k x0 x1 x5 (mn (wrap64 (x6 + x6)) 1099511627776) (wrap64 (Int.tdiv x7 2)))) else (if ((decide (x0 < 0)) != (decide (x1 < 0))) = true then (some (wrap64 (-x5))) else (some x5))
end
def eddywheelref01_product.f (k : Nat) (a0 : Int) (a1 : Int) : Option (Int) := if a0 < 0 then (eddywheelref01_product.j0 k a0 a1 0 (wrap64 (-a0)) a1) else (eddywheelref01_product.j0 k a0 a1 0 a0 a1)
theorem eddywheelref01_product.mono_l : ∀ k, (∀ y0 y1 y2 y3 y4, LeO (eddywheelref01_product.j0 k y0 y1 y2 y3 y4) (eddywheelref01_product.j0 (k + 1) y0 y1 y2 y3 y4)) ∧ (∀ y0 y1 y2 y3 y4, LeO (eddywheelref01_product.j1 k y0 y1 y2 y3 y4) (eddywheelref01_product.j1 (k + 1) y0 y1 y2 y3 y4)) ∧ (∀ y0 y1 y2 y3 y4, LeO (eddywheelref01_product.l0 k y0 y1 y2 y3 y4) (eddywheelref01_product.l0 (k + 1) y0 y1 y2 y3 y4))
  | 0 => ⟨fun _ _ _ _ _ r h => by simp [eddywheelref01_product.j0] at h, fun _ _ _ _ _ r h => by simp [eddywheelref01_product.j1] at h, fun _ _ _ _ _ r h => by simp [eddywheelref01_product.l0] at h⟩
  | k + 1 => by
    obtain ⟨ih0, ih1, ih2⟩ := eddywheelref01_product.mono_l k
    refine ⟨?_, ?_, ?_⟩
    · intro y0 y1 y2 y3 y4
      unfold eddywheelref01_product.j0
      repeat' first
      | (with_reducible exact ih0 _ _ _ _ _)
      | (with_reducible exact ih1 _ _ _ _ _)
      | (with_reducible exact ih2 _ _ _ _ _)
      | (with_reducible exact LeO.refl _)
      | (with_reducible exact LeO.none _)
      | (with_reducible refine LeO.ite ?_ ?_)
      | (with_reducible refine LeO.bind ?_ (fun _ => ?_))
      | exact ih0 _ _ _ _ _
      | exact ih1 _ _ _ _ _
      | exact ih2 _ _ _ _ _
      | exact LeO.none _
      | refine LeO.ite ?_ ?_
      | refine LeO.bind ?_ (fun _ => ?_)
    · intro y0 y1 y2 y3 y4
      unfold eddywheelref01_product.j1
      repeat' first
      | (with_reducible exact ih0 _ _ _ _ _)
      | (with_reducible exact ih1 _ _ _ _ _)
      | (with_reducible exact ih2 _ _ _ _ _)
      | (with_reducible exact LeO.refl _)
      | (with_reducible exact LeO.none _)
      | (with_reducible refine LeO.ite ?_ ?_)
      | (with_reducible refine LeO.bind ?_ (fun _ => ?_))
      | exact ih0 _ _ _ _ _
      | exact ih1 _ _ _ _ _
      | exact ih2 _ _ _ _ _
      | exact LeO.none _
      | refine LeO.ite ?_ ?_
      | refine LeO.bind ?_ (fun _ => ?_)
    · intro y0 y1 y2 y3 y4
      unfold eddywheelref01_product.l0
      repeat' first
      | (with_reducible exact ih0 _ _ _ _ _)
      | (with_reducible exact ih1 _ _ _ _ _)
      | (with_reducible exact ih2 _ _ _ _ _)
      | (with_reducible exact LeO.refl _)
      | (with_reducible exact LeO.none _)
      | (with_reducible refine LeO.ite ?_ ?_)
      | (with_reducible refine LeO.bind ?_ (fun _ => ?_))
      | exact ih0 _ _ _ _ _
      | exact ih1 _ _ _ _ _
      | exact ih2 _ _ _ _ _
      | exact LeO.none _
      | refine LeO.ite ?_ ?_
      | refine LeO.bind ?_ (fun _ => ?_)
theorem eddywheelref01_product.mono : ∀ a0 a1 k, LeO (eddywheelref01_product.f k a0 a1) (eddywheelref01_product.f (k + 1) a0 a1) := by
  intro a0 a1 k
  obtain ⟨ih0, ih1, ih2⟩ := eddywheelref01_product.mono_l k
  unfold eddywheelref01_product.f
  repeat' first
      | (with_reducible exact ih0 _ _ _ _ _)
      | (with_reducible exact ih1 _ _ _ _ _)
      | (with_reducible exact ih2 _ _ _ _ _)
      | (with_reducible exact LeO.refl _)
      | (with_reducible exact LeO.none _)
      | (with_reducible refine LeO.ite ?_ ?_)
      | (with_reducible refine LeO.bind ?_ (fun _ => ?_))
      | exact ih0 _ _ _ _ _
      | exact ih1 _ _ _ _ _
      | exact ih2 _ _ _ _ _
      | exact LeO.none _
      | refine LeO.ite ?_ ?_
      | refine LeO.bind ?_ (fun _ => ?_)
set_option maxHeartbeats 8000000 in
set_option maxRecDepth 100000 in
theorem eddywheelref01_product.calls (k : Nat) (a0 : Int) (a1 : Int) (r : Int) (w : World) (h : eddywheelref01_product.f k a0 a1 = some r) :
    Calls Try.prog 39 #[.int .i64 a0, .int .i64 a1] w fun e w' => e = .returned (.int .i64 r) ∧ Below w.heap.size w w' := by
  have HB := Aside0.mk (Below.refl w.heap.size w)
  have H : (if a0 < 0 then (eddywheelref01_product.j0 k a0 a1 0 (wrap64 (-a0)) a1) else (eddywheelref01_product.j0 k a0 a1 0 a0 a1)) = some r := h
  clear h
  have HC3 := Aside0.mk H
  clear H
  go_enter Try.func39, Try.ntmps39
  go_upto_if 11 with (fail)
  go_cut [6] (fun v6 wc => ∃ (kq : Nat) (x6_2 : Int), v6 = .int .i64 x6_2 ∧ Aside0 (eddywheelref01_product.j0 kq a0 a1 0 x6_2 a1 = some r) ∧ Aside0 (kq ≤ k) ∧ Aside0 (Below w.heap.size w wc))
  case first =>
    have H := HC3.out
    clear HC3
    by_cases c4 : a0 < 0
    · rw [if_pos c4] at H
      have c4b0 : decide (a0 < 0) = true := decide_eq_true c4
      clear c4
      (first | rw [c4b0] | (simp only [i64_w, i32_w]; rw [c4b0]) | skip)
      have H' := Aside0.mk H
      clear H
      go_wp2
      go_meet
      case rel => exact ⟨_, (wrap64 (-a0)), (by first | rfl | (simp; done) | (simp [*]; done)), H', ⟨by first | omega | exact Nat.le_refl _⟩, ⟨by repeat (first | (with_reducible first | exact HB.out | apply below_alloc | apply pw_below_drewN | apply below_drew1) | exact HB.out)⟩⟩
    · rw [if_neg c4] at H
      have c4b0 : decide (a0 < 0) = false := decide_eq_false c4
      clear c4
      (first | rw [c4b0] | (simp only [i64_w, i32_w]; rw [c4b0]) | skip)
      have H' := Aside0.mk H
      clear H
      go_wp2
      go_meet
      case rel => exact ⟨_, (a0), (by first | rfl | (simp; done) | (simp [*]; done)), H', ⟨by first | omega | exact Nat.le_refl _⟩, ⟨by repeat (first | (with_reducible first | exact HB.out | apply below_alloc | apply pw_below_drewN | apply below_drew1) | exact HB.out)⟩⟩
  case rest =>
    clear HC3
    try clear p2
    try clear c3
    try clear c4
    try clear c4b0
    obtain ⟨kq, x6_2, rfl, HA, HJ2, HB⟩ := hcut
    cases kq with
    | zero => exact absurd HA.out (by simp [eddywheelref01_product.j0])
    | succ kj2 =>
      have H := HA.out
      clear HA
      simp only [eddywheelref01_product.j0] at H
      have HC5 := Aside0.mk H
      clear H
      go_upto_if 15 with (fail)
      go_cut [7] (fun v7 wc => ∃ (kq : Nat) (x7_4 : Int), v7 = .int .i64 x7_4 ∧ Aside0 (eddywheelref01_product.j1 kq a0 a1 0 x6_2 x7_4 = some r) ∧ Aside0 (kq ≤ kj2) ∧ Aside0 (Below w.heap.size w wc))
      case first =>
        have H := HC5.out
        clear HC5
        by_cases c6 : a1 < 0
        · rw [if_pos c6] at H
          have c6b0 : decide (a1 < 0) = true := decide_eq_true c6
          clear c6
          (first | rw [c6b0] | (simp only [i64_w, i32_w]; rw [c6b0]) | skip)
          have H' := Aside0.mk H
          clear H
          go_wp2
          go_meet
          case rel => exact ⟨_, (wrap64 (-a1)), (by first | rfl | (simp; done) | (simp [*]; done)), H', ⟨by have := HJ2.out; first | omega | exact Nat.le_refl _⟩, ⟨by repeat (first | (with_reducible first | exact HB.out | apply below_alloc | apply pw_below_drewN | apply below_drew1) | exact HB.out)⟩⟩
        · rw [if_neg c6] at H
          have c6b0 : decide (a1 < 0) = false := decide_eq_false c6
          clear c6
          (first | rw [c6b0] | (simp only [i64_w, i32_w]; rw [c6b0]) | skip)
          have H' := Aside0.mk H
          clear H
          go_wp2
          go_meet
          case rel => exact ⟨_, (a1), (by first | rfl | (simp; done) | (simp [*]; done)), H', ⟨by have := HJ2.out; first | omega | exact Nat.le_refl _⟩, ⟨by repeat (first | (with_reducible first | exact HB.out | apply below_alloc | apply pw_below_drewN | apply below_drew1) | exact HB.out)⟩⟩
      case rest =>
        clear HC5
        try clear p2
        try clear c3
        try clear c4
        try clear c4b0
        try clear c6
        try clear c6b0
        try clear p6
        try clear p2
        obtain ⟨kq, x7_4, rfl, HA, HJ4, HB⟩ := hcut
        cases kq with
        | zero => exact absurd HA.out (by simp [eddywheelref01_product.j1])
        | succ kj4 =>
          have H := HA.out
          clear HA
          simp only [eddywheelref01_product.j1] at H
          have H' := Aside0.mk H
          clear H
          go_wp2
          go_loopg [5, 6, 7] kj4 (fun kq v5 v6 v7 w' => ∃ (x5_3 : Int) (x6_3 : Int) (x7_3 : Int), v5 = .int .i64 x5_3 ∧ v6 = .int .i64 x6_3 ∧ v7 = .int .i64 x7_3 ∧ Aside0 (eddywheelref01_product.l0 kq a0 a1 x5_3 x6_3 x7_3 = some r) ∧ Aside0 (kq ≤ kj4) ∧ Aside0 (Below w.heap.size w w'))
          case atStart => exact ⟨(0), (x6_2), (x7_4), (by first | rfl | (simp; done) | (simp [*]; done)), (by first | rfl | (simp; done) | (simp [*]; done)), (by first | rfl | (simp; done) | (simp [*]; done)), H', ⟨Nat.le_refl _⟩, ⟨by repeat (first | (with_reducible first | exact HB.out | apply below_alloc | apply pw_below_drewN | apply below_drew1) | exact HB.out)⟩⟩
          case round =>
            clear H'
            try clear p2
            try clear c3
            try clear c4
            try clear c4b0
            try clear c6
            try clear c6b0
            try clear p6
            try clear p2
            try clear p6
            obtain ⟨x5_3, x6_3, x7_3, rfl, rfl, rfl, HA, HK3, HB⟩ := hrel
            cases gk with
            | zero => exact absurd HA.out (by simp [eddywheelref01_product.l0])
            | succ k3 =>
              have H := HA.out
              clear HA
              simp only [eddywheelref01_product.l0] at H
              by_cases c7 : x7_3 > 0
              · rw [if_pos c7] at H
                have c7b0 : decide (0 < x7_3) = true := decide_eq_true c7
                clear c7
                by_cases c8 : (Int.tmod x7_3 2) = 1
                · rw [if_pos c8] at H
                  have c8b0 : ((Int.tmod x7_3 2) == 1) = true := beq_iff_eq.mpr c8
                  have c8b1 : ((Int.tmod x7_3 2) != 1) = false := bne_eq_false_iff_eq.mpr c8
                  clear c8
                  obtain ⟨ji9, hji9⟩ : ∃ j_ : Int, (mn (wrap64 (x5_3 + x6_3)) 1099511627776) = j_ := ⟨_, rfl⟩
                  replace H : (eddywheelref01_product.l0 k3 a0 a1 ji9 (mn (wrap64 (x6_3 + x6_3)) 1099511627776) (wrap64 (Int.tdiv x7_3 2))) = some r := by first | (rw [hji9] at H; exact H) | (simp only [hji9] at H ⊢; exact H)
                  have hji9_ : (if 1099511627776 < (wrap64 (x5_3 + x6_3)) then 1099511627776 else (wrap64 (x5_3 + x6_3))) = ji9 := hji9
                  obtain ⟨ji10, hji10⟩ : ∃ j_ : Int, (mn (wrap64 (x6_3 + x6_3)) 1099511627776) = j_ := ⟨_, rfl⟩
                  replace H : (eddywheelref01_product.l0 k3 a0 a1 ji9 ji10 (wrap64 (Int.tdiv x7_3 2))) = some r := by first | (rw [hji10] at H; exact H) | (simp only [hji10] at H ⊢; exact H)
                  have hji10_ : (if 1099511627776 < (wrap64 (x6_3 + x6_3)) then 1099511627776 else (wrap64 (x6_3 + x6_3))) = ji10 := hji10
                  have H' := Aside0.mk H
                  clear H
                  go_wp2
                  go_roundg k3
                  case measure => have := HJ2.out; have := HJ4.out; have := HK3.out; omega
                  case rel => exact ⟨(ji9), (ji10), (wrap64 (Int.tdiv x7_3 2)), (by first | rfl | (simp; done) | (simp only [← hji9] <;> (first | rfl | simp)) | (simp [*]; done)), (by first | rfl | (simp; done) | (simp only [← hji10] <;> (first | rfl | simp)) | (simp [*]; done)), (by first | rfl | (simp; done) | (simp [*]; done)), H', ⟨by have := HJ2.out; have := HJ4.out; have := HK3.out; omega⟩, ⟨by repeat (first | (with_reducible first | exact HB.out | apply below_alloc | apply pw_below_drewN | apply below_drew1) | exact HB.out)⟩⟩
                · rw [if_neg c8] at H
                  have c8b0 : ((Int.tmod x7_3 2) == 1) = false := beq_eq_false_iff_ne.mpr c8
                  have c8b1 : ((Int.tmod x7_3 2) != 1) = true := bne_iff_ne.mpr c8
                  obtain ⟨ji11, hji11⟩ : ∃ j_ : Int, (mn (wrap64 (x6_3 + x6_3)) 1099511627776) = j_ := ⟨_, rfl⟩
                  replace H : (eddywheelref01_product.l0 k3 a0 a1 x5_3 ji11 (wrap64 (Int.tdiv x7_3 2))) = some r := by first | (rw [hji11] at H; exact H) | (simp only [hji11] at H ⊢; exact H)
                  have hji11_ : (if 1099511627776 < (wrap64 (x6_3 + x6_3)) then 1099511627776 else (wrap64 (x6_3 + x6_3))) = ji11 := hji11
                  have H' := Aside0.mk H
                  clear H
                  go_wp2
                  go_roundg k3
                  case measure => have := HJ2.out; have := HJ4.out; have := HK3.out; omega
                  case rel => exact ⟨(x5_3), (ji11), (wrap64 (Int.tdiv x7_3 2)), (by first | rfl | (simp; done) | (simp [*]; done)), (by first | rfl | (simp; done) | (simp only [← hji11] <;> (first | rfl | simp)) | (simp [*]; done)), (by first | rfl | (simp; done) | (simp [*]; done)), H', ⟨by have := HJ2.out; have := HJ4.out; have := HK3.out; omega⟩, ⟨by repeat (first | (with_reducible first | exact HB.out | apply below_alloc | apply pw_below_drewN | apply below_drew1) | exact HB.out)⟩⟩
              · rw [if_neg c7] at H
                have c7b0 : decide (0 < x7_3) = false := decide_eq_false c7
                clear c7
                by_cases c12 : ((decide (a0 < 0)) != (decide (a1 < 0))) = true
                · rw [if_pos c12] at H
                  have c12b0 : ((decide (a0 < 0)) != (decide (a1 < 0))) = true := c12
                  (try (have c12b1 : decide ((decide (a0 < 0)) = (decide (a1 < 0))) = false := by simpa using c12))
                  (try (have c12b2 : ((decide (a0 < 0)) == (decide (a1 < 0))) = false := by simpa using c12))
                  (try (have c12b3 : ¬ ((decide (a0 < 0)) = (decide (a1 < 0))) := by simpa using c12))
                  clear c12
                  obtain rfl := Option.some.inj H
                  go_wp2
                  go_ret
                  exact ⟨by first | rfl | (simp [errW_none, errW_some] <;> rfl) | (simp [*, errW_none, errW_some] <;> rfl), by repeat (first | (with_reducible first | exact HB.out | apply below_alloc | apply pw_below_drewN | apply below_drew1) | exact HB.out)⟩
                · rw [if_neg c12] at H
                  have c12b0 : ((decide (a0 < 0)) != (decide (a1 < 0))) = false := by simpa using c12
                  (try (have c12b1 : decide ((decide (a0 < 0)) = (decide (a1 < 0))) = true := by simpa using c12))
                  (try (have c12b2 : ((decide (a0 < 0)) == (decide (a1 < 0))) = true := by simpa using c12))
                  clear c12
                  obtain rfl := Option.some.inj H
                  go_wp2
                  go_ret
                  exact ⟨by first | rfl | (simp [errW_none, errW_some] <;> rfl) | (simp [*, errW_none, errW_some] <;> rfl), by repeat (first | (with_reducible first | exact HB.out | apply below_alloc | apply pw_below_drewN | apply below_drew1) | exact HB.out)⟩

/-! ### eddywheelref01_Do: function 24 -/
mutual
def eddywheelref01_Do.j0 : Nat → Int → Int → Int → Bool → Option (Int × Int)
  | 0, _, _, _, _ => none
  | k + 1, x0, x1, x2, x37 => if x37 = true then (some (0, 1)) else ((eddywheelref01_ToInt.f x1).bind fun bt142 => ((eddywheelref01_ToInt.f x2).bind fun bt144 => (if bt142.2 = true then (eddywheelref01_Do.j1 k x0 bt142.1 bt144.1 (!bt144.2)) else (eddywheelref01_Do.j1 k x0 bt142.1 bt144.1 true))))
def eddywheelref01_Do.j1 : Nat → Int → Int → Int → Bool → Option (Int × Int)
  | 0, _, _, _, _ => none
  | k + 1, x0, x8, x10, x53 => if x53 = true then (some (0, 11)) else (if x0 = 47 then (eddywheelref01_Do.j2 k x0 x8 x10 (x10 == 0)) else (if x0 = 37 then (eddywheelref01_Do.j2 k x0 x8 x10 (x10 == 0)) else (eddywheelref01_Do.j2 k x0 x8 x10 false)))
def eddywheelref01_Do.j2 : Nat → Int → Int → Int → Bool → Option (Int × Int)
  | 0, _, _, _, _ => none
  | k + 1, x0, x8, x10, x63 => if x63 = true then (some (0, 12)) else (if x0 = 43 then ((eddywheelref01_Int.f (wrap64 (x8 + x10))).bind fun bt146 => (some (bt146.1, bt146.2))) else (if x0 = 45 then ((eddywheelref01_Int.f (wrap64 (x8 - x10))).bind fun bt148 => (some (bt148.1, bt148.2))) else (if x0 = 42 then ((eddywheelref01_product.f k x8 x10).bind fun t150 => ((eddywheelref01_Int.f t150).bind fun bt151 => (some (bt151.1, bt151.2)))) else (if x0 = 47 then (if x10 = 0 then (none) else ((eddywheelref01_Int.f (wrap64 (Int.tdiv x8 x10))).bind fun bt153 => (some (bt153.1, bt153.2)))) else (if x0 = 37 then (if x10 = 0 then (none) else ((eddywheelref01_Int.f (wrap64 (x8 - (wrap64 ((wrap64 (Int.tdiv x8 x10)) * x10))))).bind fun bt155 => (some (bt155.1, bt155.2)))) else (if x0 = 60 then ((eddywheelref01_Bool.f (decide (x8 < x10))).bind fun t157 => (some (t157, 0))) else ((eddywheelref01_Bool.f (x8 == x10)).bind fun t158 => (some (t158, 0)))))))))
end
def eddywheelref01_Do.f (k : Nat) (a0 : Int) (a1 : Int) (a2 : Int) : Option (Int × Int) := if a0 = 43 then (eddywheelref01_Do.j0 k a0 a1 a2 false) else (if a0 = 45 then (eddywheelref01_Do.j0 k a0 a1 a2 false) else (if a0 = 42 then (eddywheelref01_Do.j0 k a0 a1 a2 false) else (if a0 = 47 then (eddywheelref01_Do.j0 k a0 a1 a2 false) else (if a0 = 37 then (eddywheelref01_Do.j0 k a0 a1 a2 false) else (if a0 = 60 then (eddywheelref01_Do.j0 k a0 a1 a2 false) else (eddywheelref01_Do.j0 k a0 a1 a2 (a0 != 61)))))))
theorem eddywheelref01_Do.mono_l : ∀ k, (∀ y0 y1 y2 y3, LeO (eddywheelref01_Do.j0 k y0 y1 y2 y3) (eddywheelref01_Do.j0 (k + 1) y0 y1 y2 y3)) ∧ (∀ y0 y1 y2 y3, LeO (eddywheelref01_Do.j1 k y0 y1 y2 y3) (eddywheelref01_Do.j1 (k + 1) y0 y1 y2 y3)) ∧ (∀ y0 y1 y2 y3, LeO (eddywheelref01_Do.j2 k y0 y1 y2 y3) (eddywheelref01_Do.j2 (k + 1) y0 y1 y2 y3))
  | 0 => ⟨fun _ _ _ _ r h => by simp [eddywheelref01_Do.j0] at h, fun _ _ _ _ r h => by simp [eddywheelref01_Do.j1] at h, fun _ _ _ _ r h => by simp [eddywheelref01_Do.j2] at h⟩
  | k + 1 => by
    obtain ⟨ih0, ih1, ih2⟩ := eddywheelref01_Do.mono_l k
    refine ⟨?_, ?_, ?_⟩
    · intro y0 y1 y2 y3
      unfold eddywheelref01_Do.j0
      repeat' first
      | (with_reducible exact ih0 _ _ _ _)
      | (with_reducible exact ih1 _ _ _ _)
      | (with_reducible exact ih2 _ _ _ _)
      | (with_reducible exact eddywheelref01_product.mono _ _ _)
      | (with_reducible exact LeO.refl _)
      | (with_reducible exact LeO.none _)
      | (with_reducible refine LeO.ite ?_ ?_)
      | (with_reducible refine LeO.bind ?_ (fun _ => ?_))
      | exact ih0 _ _ _ _
      | exact ih1 _ _ _ _
      | exact ih2 _ _ _ _
      | exact eddywheelref01_product.mono _ _ _
      | exact LeO.none _
      | refine LeO.ite ?_ ?_
      | refine LeO.bind ?_ (fun _ => ?_)
    · intro y0 y1 y2 y3
      unfold eddywheelref01_Do.j1
      repeat' first
      | (with_reducible exact ih0 _ _ _ _)
      | (with_reducible exact ih1 _ _ _ _)
      | (with_reducible exact ih2 _ _ _ _)
      | (with_reducible exact eddywheelref01_product.mono _ _ _)
      | (with_reducible exact LeO.refl _)
      | (with_reducible exact LeO.none _)
      | (with_reducible refine LeO.ite ?_ ?_)
      | (with_reducible refine LeO.bind ?_ (fun _ => ?_))
      | exact ih0 _ _ _ _
      | exact ih1 _ _ _ _
      | exact ih2 _ _ _ _
      | exact eddywheelref01_product.mono _ _ _
      | exact LeO.none _
      | refine LeO.ite ?_ ?_
      | refine LeO.bind ?_ (fun _ => ?_)
    · intro y0 y1 y2 y3
      unfold eddywheelref01_Do.j2
      repeat' first
      | (with_reducible exact ih0 _ _ _ _)
      | (with_reducible exact ih1 _ _ _ _)
      | (with_reducible exact ih2 _ _ _ _)
      | (with_reducible exact eddywheelref01_product.mono _ _ _)
      | (with_reducible exact LeO.refl _)
      | (with_reducible exact LeO.none _)
      | (with_reducible refine LeO.ite ?_ ?_)
      | (with_reducible refine LeO.bind ?_ (fun _ => ?_))
      | exact ih0 _ _ _ _
      | exact ih1 _ _ _ _
      | exact ih2 _ _ _ _
      | exact eddywheelref01_product.mono _ _ _
      | exact LeO.none _
      | refine LeO.ite ?_ ?_
      | refine LeO.bind ?_ (fun _ => ?_)
theorem eddywheelref01_Do.mono : ∀ a0 a1 a2 k, LeO (eddywheelref01_Do.f k a0 a1 a2) (eddywheelref01_Do.f (k + 1) a0 a1 a2) := by
  intro a0 a1 a2 k
  obtain ⟨ih0, ih1, ih2⟩ := eddywheelref01_Do.mono_l k
  unfold eddywheelref01_Do.f
  repeat' first
      | (with_reducible exact ih0 _ _ _ _)
      | (with_reducible exact ih1 _ _ _ _)
      | (with_reducible exact ih2 _ _ _ _)
      | (with_reducible exact eddywheelref01_product.mono _ _ _)
      | (with_reducible exact LeO.refl _)
      | (with_reducible exact LeO.none _)
      | (with_reducible refine LeO.ite ?_ ?_)
      | (with_reducible refine LeO.bind ?_ (fun _ => ?_))
      | exact ih0 _ _ _ _
      | exact ih1 _ _ _ _
      | exact ih2 _ _ _ _
      | exact eddywheelref01_product.mono _ _ _
      | exact LeO.none _
      | refine LeO.ite ?_ ?_
      | refine LeO.bind ?_ (fun _ => ?_)
set_option maxHeartbeats 8000000 in
set_option maxRecDepth 100000 in
theorem eddywheelref01_Do.calls (k : Nat) (a0 : Int) (a1 : Int) (a2 : Int) (r1 : Int) (r2 : Int) (w : World) (h : eddywheelref01_Do.f k a0 a1 a2 = some (r1, r2)) :
    Calls Try.prog 24 #[.int .u8 a0, .int .u64 a1, .int .u64 a2] w fun e w' => e = .returned (.tuple #[.int .u64 r1, .int .i64 r2]) ∧ Below w.heap.size w w' := by
  have HB := Aside0.mk (Below.refl w.heap.size w)
  have H : (if a0 = 43 then (eddywheelref01_Do.j0 k a0 a1 a2 false) else (if a0 = 45 then (eddywheelref01_Do.j0 k a0 a1 a2 false) else (if a0 = 42 then (eddywheelref01_Do.j0 k a0 a1 a2 false) else (if a0 = 47 then (eddywheelref01_Do.j0 k a0 a1 a2 false) else (if a0 = 37 then (eddywheelref01_Do.j0 k a0 a1 a2 false) else (if a0 = 60 then (eddywheelref01_Do.j0 k a0 a1 a2 false) else (eddywheelref01_Do.j0 k a0 a1 a2 (a0 != 61)))))))) = some (r1, r2) := h
  clear h
  have HC4 := Aside0.mk H
  clear H
  go_enter Try.func24, Try.ntmps24
  go_upto_region 1 with (fail)
  go_cut [37] (fun v37 wc => ∃ (kq : Nat) (x37_3 : Bool), v37 = .bool x37_3 ∧ Aside0 (eddywheelref01_Do.j0 kq a0 a1 a2 x37_3 = some (r1, r2)) ∧ Aside0 (kq ≤ k) ∧ Aside0 (Below w.heap.size w wc))
  case first =>
    have H := HC4.out
    clear HC4
    by_cases c5 : a0 = 43
    · rw [if_pos c5] at H
      have c5b0 : (a0 == 43) = true := beq_iff_eq.mpr c5
      have c5b1 : (a0 != 43) = false := bne_eq_false_iff_eq.mpr c5
      clear c5
      (first | rw [c5b0] | (simp only [i64_w, i32_w]; rw [c5b0]) | skip)
      have H' := Aside0.mk H
      clear H
      go_wp2
      go_meet
      case rel => exact ⟨_, (false), (by first | rfl | (simp; done) | (simp [*]; done)), H', ⟨by first | omega | exact Nat.le_refl _⟩, ⟨by repeat (first | (with_reducible first | exact HB.out | apply below_alloc | apply pw_below_drewN | apply below_drew1) | exact HB.out)⟩⟩
    · rw [if_neg c5] at H
      have c5b0 : (a0 == 43) = false := beq_eq_false_iff_ne.mpr c5
      have c5b1 : (a0 != 43) = true := bne_iff_ne.mpr c5
      (first | rw [c5b0] | (simp only [i64_w, i32_w]; rw [c5b0]) | skip)
      by_cases c6 : a0 = 45
      · rw [if_pos c6] at H
        have c6b0 : (a0 == 45) = true := beq_iff_eq.mpr c6
        have c6b1 : (a0 != 45) = false := bne_eq_false_iff_eq.mpr c6
        clear c6
        have H' := Aside0.mk H
        clear H
        go_wp2
        go_meet
        case rel => exact ⟨_, (false), (by first | rfl | (simp; done) | (simp [*]; done)), H', ⟨by first | omega | exact Nat.le_refl _⟩, ⟨by repeat (first | (with_reducible first | exact HB.out | apply below_alloc | apply pw_below_drewN | apply below_drew1) | exact HB.out)⟩⟩
      · rw [if_neg c6] at H
        have c6b0 : (a0 == 45) = false := beq_eq_false_iff_ne.mpr c6
        have c6b1 : (a0 != 45) = true := bne_iff_ne.mpr c6
        by_cases c7 : a0 = 42
        · rw [if_pos c7] at H
          have c7b0 : (a0 == 42) = true := beq_iff_eq.mpr c7
          have c7b1 : (a0 != 42) = false := bne_eq_false_iff_eq.mpr c7
          clear c7
          have H' := Aside0.mk H
          clear H
          go_wp2
          go_meet
          case rel => exact ⟨_, (false), (by first | rfl | (simp; done) | (simp [*]; done)), H', ⟨by first | omega | exact Nat.le_refl _⟩, ⟨by repeat (first | (with_reducible first | exact HB.out | apply below_alloc | apply pw_below_drewN | apply below_drew1) | exact HB.out)⟩⟩
        · rw [if_neg c7] at H
          have c7b0 : (a0 == 42) = false := beq_eq_false_iff_ne.mpr c7
          have c7b1 : (a0 != 42) = true := bne_iff_ne.mpr c7
          by_cases c8 : a0 = 47
          · rw [if_pos c8] at H
            have c8b0 : (a0 == 47) = true := beq_iff_eq.mpr c8
            have c8b1 : (a0 != 47) = false := bne_eq_false_iff_eq.mpr c8
            clear c8
            have H' := Aside0.mk H
            clear H
            go_wp2
            go_meet
            case rel => exact ⟨_, (false), (by first | rfl | (simp; done) | (simp [*]; done)), H', ⟨by first | omega | exact Nat.le_refl _⟩, ⟨by repeat (first | (with_reducible first | exact HB.out | apply below_alloc | apply pw_below_drewN | apply below_drew1) | exact HB.out)⟩⟩
          · rw [if_neg c8] at H
            have c8b0 : (a0 == 47) = false := beq_eq_false_iff_ne.mpr c8
            have c8b1 : (a0 != 47) = true := bne_iff_ne.mpr c8
            by_cases c9 : a0 = 37
            · rw [if_pos c9] at H
              have c9b0 : (a0 == 37) = true := beq_iff_eq.mpr c9
              have c9b1 : (a0 != 37) = false := bne_eq_false_iff_eq.mpr c9
              clear c9
              have H' := Aside0.mk H
              clear H
              go_wp2
              go_meet
              case rel => exact ⟨_, (false), (by first | rfl | (simp; done) | (simp [*]; done)), H', ⟨by first | omega | exact Nat.le_refl _⟩, ⟨by repeat (first | (with_reducible first | exact HB.out | apply below_alloc | apply pw_below_drewN | apply below_drew1) | exact HB.out)⟩⟩
            · rw [if_neg c9] at H
              have c9b0 : (a0 == 37) = false := beq_eq_false_iff_ne.mpr c9
              have c9b1 : (a0 != 37) = true := bne_iff_ne.mpr c9
              by_cases c10 : a0 = 60
              · rw [if_pos c10] at H
                have c10b0 : (a0 == 60) = true := beq_iff_eq.mpr c10
                have c10b1 : (a0 != 60) = false := bne_eq_false_iff_eq.mpr c10
                clear c10
                have H' := Aside0.mk H
                clear H
                go_wp2
                go_meet
                case rel => exact ⟨_, (false), (by first | rfl | (simp; done) | (simp [*]; done)), H', ⟨by first | omega | exact Nat.le_refl _⟩, ⟨by repeat (first | (with_reducible first | exact HB.out | apply below_alloc | apply pw_below_drewN | apply below_drew1) | exact HB.out)⟩⟩
              · rw [if_neg c10] at H
                have c10b0 : (a0 == 60) = false := beq_eq_false_iff_ne.mpr c10
                have c10b1 : (a0 != 60) = true := bne_iff_ne.mpr c10
                have H' := Aside0.mk H
                clear H
                go_wp2
                go_meet
                case rel => exact ⟨_, ((a0 != 61)), (by first | rfl | (simp; done) | (simp [*]; done)), H', ⟨by first | omega | exact Nat.le_refl _⟩, ⟨by repeat (first | (with_reducible first | exact HB.out | apply below_alloc | apply pw_below_drewN | apply below_drew1) | exact HB.out)⟩⟩
  case rest =>
    clear HC4
    try clear c1
    try clear c2
    try clear p2
    try clear c5
    try clear c5b0
    try clear c5b1
    try clear c6
    try clear c6b0
    try clear c6b1
    try clear c7
    try clear c7b0
    try clear c7b1
    try clear c8
    try clear c8b0
    try clear c8b1
    try clear c9
    try clear c9b0
    try clear c9b1
    try clear c10
    try clear c10b0
    try clear c10b1
    obtain ⟨kq, x37_3, rfl, HA, HJ3, HB⟩ := hcut
    cases kq with
    | zero => exact absurd HA.out (by simp [eddywheelref01_Do.j0])
    | succ kj3 =>
      have H := HA.out
      clear HA
      simp only [eddywheelref01_Do.j0] at H
      by_cases c11 : x37_3 = true
      · subst c11
        have H1 : (some (0, 1)) = some (r1, r2) := by rw [if_pos rfl] at H; exact H
        clear H
        have H := H1
        clear H1
        simp only [Option.some.injEq, Prod.mk.injEq] at H
        obtain ⟨rfl, rfl⟩ := H
        go_wp2
        go_ret2
        exact ⟨by first | rfl | (simp [errW_none, errW_some] <;> rfl) | (simp [*, errW_none, errW_some] <;> rfl), by repeat (first | (with_reducible first | exact HB.out | apply below_alloc | apply pw_below_drewN | apply below_drew1) | exact HB.out)⟩
      · replace c11 := Bool.eq_false_iff.mpr c11
        subst c11
        have H1 : ((eddywheelref01_ToInt.f a1).bind fun bt142 => ((eddywheelref01_ToInt.f a2).bind fun bt144 => (if bt142.2 = true then (eddywheelref01_Do.j1 kj3 a0 bt142.1 bt144.1 (!bt144.2)) else (eddywheelref01_Do.j1 kj3 a0 bt142.1 bt144.1 true)))) = some (r1, r2) := by rw [if_neg (show ¬ (false = true) by decide)] at H; exact H
        clear H
        have H := H1
        clear H1
        replace H := Option.bind_eq_some_iff.mp H
        obtain ⟨⟨t142, t143⟩, A120, H⟩ := H
        replace H : ((eddywheelref01_ToInt.f a2).bind fun bt144 => (if t143 = true then (eddywheelref01_Do.j1 kj3 a0 t142 bt144.1 (!bt144.2)) else (eddywheelref01_Do.j1 kj3 a0 t142 bt144.1 true))) = some (r1, r2) := H
        have A12 := Aside0.mk A120
        clear A120
        replace H := Option.bind_eq_some_iff.mp H
        obtain ⟨⟨t144, t145⟩, A130, H⟩ := H
        replace H : (if t143 = true then (eddywheelref01_Do.j1 kj3 a0 t142 t144 (!t145)) else (eddywheelref01_Do.j1 kj3 a0 t142 t144 true)) = some (r1, r2) := H
        have A13 := Aside0.mk A130
        clear A130
        have HC14 := Aside0.mk H
        clear H
        go_upto_region 5 with (first | ((with_reducible refine gate_callee (f := 27) rfl ?_); refine goesL_ (some 40) rfl rfl Try.func27 (by kernel_rfl) rfl #[.int .u64 a1] rfl (by (try simp only [List.map_toArray, List.map_cons, List.map_nil]); first | done | rfl | (simp only [List.length_drop, List.length_take]; rfl)) ?_; (with_reducible refine (eddywheelref01_ToInt.calls a1 t142 t143 _ A12.out).mono ?_); rintro e w' ⟨rfl, ⟨nd, rfl⟩⟩; refine ⟨_, rfl, ?_⟩) | ((with_reducible refine gate_callee (f := 27) rfl ?_); refine goesL_ (some 45) rfl rfl Try.func27 (by kernel_rfl) rfl #[.int .u64 a2] rfl (by (try simp only [List.map_toArray, List.map_cons, List.map_nil]); first | done | rfl | (simp only [List.length_drop, List.length_take]; rfl)) ?_; (with_reducible refine (eddywheelref01_ToInt.calls a2 t144 t145 _ A13.out).mono ?_); rintro e w' ⟨rfl, ⟨nd, rfl⟩⟩; refine ⟨_, rfl, ?_⟩))
        (try simp only [Act.put, List.setIfInBounds_toArray, List.set_cons_zero, List.set_cons_succ])
        go_cut [53] (fun v53 wc => ∃ (kq : Nat) (x53_13 : Bool), v53 = .bool x53_13 ∧ Aside0 (eddywheelref01_Do.j1 kq a0 t142 t144 x53_13 = some (r1, r2)) ∧ Aside0 (kq ≤ kj3) ∧ Aside0 (Below w.heap.size w wc))
        case first =>
          have H := HC14.out
          clear HC14
          by_cases c15 : t143 = true
          · subst c15
            have H1 : (eddywheelref01_Do.j1 kj3 a0 t142 t144 (!t145)) = some (r1, r2) := by rw [if_pos rfl] at H; exact H
            clear H
            have H := H1
            clear H1
            have H' := Aside0.mk H
            clear H
            go_wp2
            go_meet
            case rel => exact ⟨_, (!t145), (by first | rfl | (simp; done) | (simp [*]; done)), H', ⟨by have := HJ3.out; first | omega | exact Nat.le_refl _⟩, ⟨by repeat (first | (with_reducible first | exact HB.out | apply below_alloc | apply pw_below_drewN | apply below_drew1) | exact HB.out)⟩⟩
          · replace c15 := Bool.eq_false_iff.mpr c15
            subst c15
            have H1 : (eddywheelref01_Do.j1 kj3 a0 t142 t144 true) = some (r1, r2) := by rw [if_neg (show ¬ (false = true) by decide)] at H; exact H
            clear H
            have H := H1
            clear H1
            have H' := Aside0.mk H
            clear H
            go_wp2
            go_meet
            case rel => exact ⟨_, (true), (by first | rfl | (simp; done) | (simp [*]; done)), H', ⟨by have := HJ3.out; first | omega | exact Nat.le_refl _⟩, ⟨by repeat (first | (with_reducible first | exact HB.out | apply below_alloc | apply pw_below_drewN | apply below_drew1) | exact HB.out)⟩⟩
        case rest =>
          clear HC14
          try clear c1
          try clear c2
          try clear p2
          try clear c5
          try clear c5b0
          try clear c5b1
          try clear c6
          try clear c6b0
          try clear c6b1
          try clear c7
          try clear c7b0
          try clear c7b1
          try clear c8
          try clear c8b0
          try clear c8b1
          try clear c9
          try clear c9b0
          try clear c9b1
          try clear c10
          try clear c10b0
          try clear c10b1
          try clear c11
          try clear c15
          try clear p2
          obtain ⟨kq, x53_13, rfl, HA, HJ13, HB⟩ := hcut
          cases kq with
          | zero => exact absurd HA.out (by simp [eddywheelref01_Do.j1])
          | succ kj13 =>
            have H := HA.out
            clear HA
            simp only [eddywheelref01_Do.j1] at H
            by_cases c16 : x53_13 = true
            · subst c16
              have H1 : (some (0, 11)) = some (r1, r2) := by rw [if_pos rfl] at H; exact H
              clear H
              have H := H1
              clear H1
              simp only [Option.some.injEq, Prod.mk.injEq] at H
              obtain ⟨rfl, rfl⟩ := H
              go_wp2
              go_ret2
              exact ⟨by first | rfl | (simp [errW_none, errW_some] <;> rfl) | (simp [*, errW_none, errW_some] <;> rfl), by repeat (first | (with_reducible first | exact HB.out | apply below_alloc | apply pw_below_drewN | apply below_drew1) | exact HB.out)⟩
            · replace c16 := Bool.eq_false_iff.mpr c16
              subst c16
              have H1 : (if a0 = 47 then (eddywheelref01_Do.j2 kj13 a0 t142 t144 (t144 == 0)) else (if a0 = 37 then (eddywheelref01_Do.j2 kj13 a0 t142 t144 (t144 == 0)) else (eddywheelref01_Do.j2 kj13 a0 t142 t144 false))) = some (r1, r2) := by rw [if_neg (show ¬ (false = true) by decide)] at H; exact H
              clear H
              have H := H1
              clear H1
              have HC17 := Aside0.mk H
              clear H
              go_upto_region 7 with (fail)
              go_cut [63] (fun v63 wc => ∃ (kq : Nat) (x63_16 : Bool), v63 = .bool x63_16 ∧ Aside0 (eddywheelref01_Do.j2 kq a0 t142 t144 x63_16 = some (r1, r2)) ∧ Aside0 (kq ≤ kj13) ∧ Aside0 (Below w.heap.size w wc))
              case first =>
                have H := HC17.out
                clear HC17
                by_cases c18 : a0 = 47
                · rw [if_pos c18] at H
                  have c18b0 : (a0 == 47) = true := beq_iff_eq.mpr c18
                  have c18b1 : (a0 != 47) = false := bne_eq_false_iff_eq.mpr c18
                  clear c18
                  (first | rw [c18b0] | (simp only [i64_w, i32_w]; rw [c18b0]) | skip)
                  have H' := Aside0.mk H
                  clear H
                  go_wp2
                  go_meet
                  case rel => exact ⟨_, ((t144 == 0)), (by first | rfl | (simp; done) | (simp [*]; done)), H', ⟨by have := HJ3.out; have := HJ13.out; first | omega | exact Nat.le_refl _⟩, ⟨by repeat (first | (with_reducible first | exact HB.out | apply below_alloc | apply pw_below_drewN | apply below_drew1) | exact HB.out)⟩⟩
                · rw [if_neg c18] at H
                  have c18b0 : (a0 == 47) = false := beq_eq_false_iff_ne.mpr c18
                  have c18b1 : (a0 != 47) = true := bne_iff_ne.mpr c18
                  (first | rw [c18b0] | (simp only [i64_w, i32_w]; rw [c18b0]) | skip)
                  by_cases c19 : a0 = 37
                  · rw [if_pos c19] at H
                    have c19b0 : (a0 == 37) = true := beq_iff_eq.mpr c19
                    have c19b1 : (a0 != 37) = false := bne_eq_false_iff_eq.mpr c19
                    clear c19
                    have H' := Aside0.mk H
                    clear H
                    go_wp2
                    go_meet
                    case rel => exact ⟨_, ((t144 == 0)), (by first | rfl | (simp; done) | (simp [*]; done)), H', ⟨by have := HJ3.out; have := HJ13.out; first | omega | exact Nat.le_refl _⟩, ⟨by repeat (first | (with_reducible first | exact HB.out | apply below_alloc | apply pw_below_drewN | apply below_drew1) | exact HB.out)⟩⟩
                  · rw [if_neg c19] at H
                    have c19b0 : (a0 == 37) = false := beq_eq_false_iff_ne.mpr c19
                    have c19b1 : (a0 != 37) = true := bne_iff_ne.mpr c19
                    have H' := Aside0.mk H
                    clear H
                    go_wp2
                    go_meet
                    case rel => exact ⟨_, (false), (by first | rfl | (simp; done) | (simp [*]; done)), H', ⟨by have := HJ3.out; have := HJ13.out; first | omega | exact Nat.le_refl _⟩, ⟨by repeat (first | (with_reducible first | exact HB.out | apply below_alloc | apply pw_below_drewN | apply below_drew1) | exact HB.out)⟩⟩
              case rest =>
                clear HC17
                try clear c1
                try clear c2
                try clear p2
                try clear c5
                try clear c5b0
                try clear c5b1
                try clear c6
                try clear c6b0
                try clear c6b1
                try clear c7
                try clear c7b0
                try clear c7b1
                try clear c8
                try clear c8b0
                try clear c8b1
                try clear c9
                try clear c9b0
                try clear c9b1
                try clear c10
                try clear c10b0
                try clear c10b1
                try clear c11
                try clear c15
                try clear c16
                try clear c18
                try clear c18b0
                try clear c18b1
                try clear c19
                try clear c19b0
                try clear c19b1
                try clear p2
                obtain ⟨kq, x63_16, rfl, HA, HJ16, HB⟩ := hcut
                cases kq with
                | zero => exact absurd HA.out (by simp [eddywheelref01_Do.j2])
                | succ kj16 =>
                  have H := HA.out
                  clear HA
                  simp only [eddywheelref01_Do.j2] at H
                  by_cases c20 : x63_16 = true
                  · subst c20
                    have H1 : (some (0, 12)) = some (r1, r2) := by rw [if_pos rfl] at H; exact H
                    clear H
                    have H := H1
                    clear H1
                    simp only [Option.some.injEq, Prod.mk.injEq] at H
                    obtain ⟨rfl, rfl⟩ := H
                    go_wp2
                    go_ret2
                    exact ⟨by first | rfl | (simp [errW_none, errW_some] <;> rfl) | (simp [*, errW_none, errW_some] <;> rfl), by repeat (first | (with_reducible first | exact HB.out | apply below_alloc | apply pw_below_drewN | apply below_drew1) | exact HB.out)⟩
                  · replace c20 := Bool.eq_false_iff.mpr c20
                    subst c20
                    have H1 : (if a0 = 43 then ((eddywheelref01_Int.f (wrap64 (t142 + t144))).bind fun bt146 => (some (bt146.1, bt146.2))) else (if a0 = 45 then ((eddywheelref01_Int.f (wrap64 (t142 - t144))).bind fun bt148 => (some (bt148.1, bt148.2))) else (if a0 = 42 then ((eddywheelref01_product.f kj16 t142 t144).bind fun t150 => ((eddywheelref01_Int.f t150).bind fun bt151 => (some (bt151.1, bt151.2)))) else (if a0 = 47 then (if t144 = 0 then (none) else ((eddywheelref01_Int.f (wrap64 (Int.tdiv t142 t144))).bind fun bt153 => (some (bt153.1, bt153.2)))) else (if a0 = 37 then (if t144 = 0 then (none) else ((eddywheelref01_Int.f (wrap64 (t142 - (wrap64 ((wrap64 (Int.tdiv t142 t144)) * t144))))).bind fun bt155 => (some (bt155.1, bt155.2)))) else (if a0 = 60 then ((eddywheelref01_Bool.f (decide (t142 < t144))).bind fun t157 => (some (t157, 0))) else ((eddywheelref01_Bool.f (t142 == t144)).bind fun t158 => (some (t158, 0))))))))) = some (r1, r2) := by rw [if_neg (show ¬ (false = true) by decide)] at H; exact H
                    clear H
                    have H := H1
                    clear H1
                    by_cases c21 : a0 = 43
                    · rw [if_pos c21] at H
                      have c21b0 : (a0 == 43) = true := beq_iff_eq.mpr c21
                      have c21b1 : (a0 != 43) = false := bne_eq_false_iff_eq.mpr c21
                      clear c21
                      replace H := Option.bind_eq_some_iff.mp H
                      obtain ⟨⟨t146, t147⟩, A220, H⟩ := H
                      replace H : (some (t146, t147)) = some (r1, r2) := H
                      have A22 := Aside0.mk A220
                      clear A220
                      simp only [Option.some.injEq, Prod.mk.injEq] at H
                      obtain ⟨rfl, rfl⟩ := H
                      go_wp2_with (first | ((with_reducible refine gate_callee (f := 38) rfl ?_); refine goesL_ (some 70) rfl rfl Try.func38 (by kernel_rfl) rfl #[.int .i64 (wrap64 (t142 + t144))] rfl (by (try simp only [List.map_toArray, List.map_cons, List.map_nil]); first | done | rfl | (simp only [List.length_drop, List.length_take]; rfl)) ?_; (with_reducible refine (eddywheelref01_Int.calls (wrap64 (t142 + t144)) t146 t147 _ A22.out).mono ?_); rintro e w' ⟨rfl, ⟨nd, rfl⟩⟩; refine ⟨_, rfl, ?_⟩))
                      go_ret2
                      exact ⟨by first | rfl | (simp [errW_none, errW_some] <;> rfl) | (simp [*, errW_none, errW_some] <;> rfl), by repeat (first | (with_reducible first | exact HB.out | apply below_alloc | apply pw_below_drewN | apply below_drew1) | exact HB.out)⟩
                    · rw [if_neg c21] at H
                      have c21b0 : (a0 == 43) = false := beq_eq_false_iff_ne.mpr c21
                      have c21b1 : (a0 != 43) = true := bne_iff_ne.mpr c21
                      by_cases c23 : a0 = 45
                      · rw [if_pos c23] at H
                        have c23b0 : (a0 == 45) = true := beq_iff_eq.mpr c23
                        have c23b1 : (a0 != 45) = false := bne_eq_false_iff_eq.mpr c23
                        clear c23
                        replace H := Option.bind_eq_some_iff.mp H
                        obtain ⟨⟨t148, t149⟩, A240, H⟩ := H
                        replace H : (some (t148, t149)) = some (r1, r2) := H
                        have A24 := Aside0.mk A240
                        clear A240
                        simp only [Option.some.injEq, Prod.mk.injEq] at H
                        obtain ⟨rfl, rfl⟩ := H
                        go_wp2_with (first | ((with_reducible refine gate_callee (f := 38) rfl ?_); refine goesL_ (some 78) rfl rfl Try.func38 (by kernel_rfl) rfl #[.int .i64 (wrap64 (t142 - t144))] rfl (by (try simp only [List.map_toArray, List.map_cons, List.map_nil]); first | done | rfl | (simp only [List.length_drop, List.length_take]; rfl)) ?_; (with_reducible refine (eddywheelref01_Int.calls (wrap64 (t142 - t144)) t148 t149 _ A24.out).mono ?_); rintro e w' ⟨rfl, ⟨nd, rfl⟩⟩; refine ⟨_, rfl, ?_⟩))
                        go_ret2
                        exact ⟨by first | rfl | (simp [errW_none, errW_some] <;> rfl) | (simp [*, errW_none, errW_some] <;> rfl), by repeat (first | (with_reducible first | exact HB.out | apply below_alloc | apply pw_below_drewN | apply below_drew1) | exact HB.out)⟩
                      · rw [if_neg c23] at H
                        have c23b0 : (a0 == 45) = false := beq_eq_false_iff_ne.mpr c23
                        have c23b1 : (a0 != 45) = true := bne_iff_ne.mpr c23
                        by_cases c25 : a0 = 42
                        · rw [if_pos c25] at H
                          have c25b0 : (a0 == 42) = true := beq_iff_eq.mpr c25
                          have c25b1 : (a0 != 42) = false := bne_eq_false_iff_eq.mpr c25
                          clear c25
                          replace H := Option.bind_eq_some_iff.mp H
                          obtain ⟨t150, A260, H⟩ := H
                          replace H : ((eddywheelref01_Int.f t150).bind fun bt151 => (some (bt151.1, bt151.2))) = some (r1, r2) := H
                          have A26 := Aside0.mk A260
                          clear A260
                          replace H := Option.bind_eq_some_iff.mp H
                          obtain ⟨⟨t151, t152⟩, A270, H⟩ := H
                          replace H : (some (t151, t152)) = some (r1, r2) := H
                          have A27 := Aside0.mk A270
                          clear A270
                          simp only [Option.some.injEq, Prod.mk.injEq] at H
                          obtain ⟨rfl, rfl⟩ := H
                          go_wp2_with (first | ((with_reducible refine gate_callee (f := 39) rfl ?_); refine goesL_ (some 85) rfl rfl Try.func39 (by kernel_rfl) rfl #[.int .i64 t142, .int .i64 t144] rfl (by (try simp only [List.map_toArray, List.map_cons, List.map_nil]); first | done | rfl | (simp only [List.length_drop, List.length_take]; rfl)) ?_; (with_reducible refine (eddywheelref01_product.calls kj16 t142 t144 t150 _ A26.out).mono ?_); rintro e w28 ⟨rfl, hb⟩; refine ⟨_, rfl, ?_⟩; have n0_ := Aside0.mk (below_step (by repeat (first | (with_reducible first | exact HB.out | apply below_alloc | apply pw_below_drewN | apply below_drew1) | exact HB.out)) hb); clear HB; have HB := n0_; clear n0_; (try clear hb); (try clear hb2); (try clear hk); (try clear hi)) | ((with_reducible refine gate_callee (f := 38) rfl ?_); refine goesL_ (some 86) rfl rfl Try.func38 (by kernel_rfl) rfl #[.int .i64 t150] rfl (by (try simp only [List.map_toArray, List.map_cons, List.map_nil]); first | done | rfl | (simp only [List.length_drop, List.length_take]; rfl)) ?_; (with_reducible refine (eddywheelref01_Int.calls t150 t151 t152 _ A27.out).mono ?_); rintro e w' ⟨rfl, ⟨nd, rfl⟩⟩; refine ⟨_, rfl, ?_⟩))
                          go_ret2
                          exact ⟨by first | rfl | (simp [errW_none, errW_some] <;> rfl) | (simp [*, errW_none, errW_some] <;> rfl), by repeat (first | (with_reducible first | exact HB.out | apply below_alloc | apply pw_below_drewN | apply below_drew1) | exact HB.out)⟩
                        · rw [if_neg c25] at H
                          have c25b0 : (a0 == 42) = false := beq_eq_false_iff_ne.mpr c25
                          have c25b1 : (a0 != 42) = true := bne_iff_ne.mpr c25
                          by_cases c29 : a0 = 47
                          · rw [if_pos c29] at H
                            have c29b0 : (a0 == 47) = true := beq_iff_eq.mpr c29
                            have c29b1 : (a0 != 47) = false := bne_eq_false_iff_eq.mpr c29
                            clear c29
                            by_cases c30 : t144 = 0
                            · rw [if_pos c30] at H
                              exact absurd H (by simp)
                            · rw [if_neg c30] at H
                              have c30b0 : (t144 == 0) = false := beq_eq_false_iff_ne.mpr c30
                              have c30b1 : (t144 != 0) = true := bne_iff_ne.mpr c30
                              replace H := Option.bind_eq_some_iff.mp H
                              obtain ⟨⟨t153, t154⟩, A310, H⟩ := H
                              replace H : (some (t153, t154)) = some (r1, r2) := H
                              have A31 := Aside0.mk A310
                              clear A310
                              simp only [Option.some.injEq, Prod.mk.injEq] at H
                              obtain ⟨rfl, rfl⟩ := H
                              go_wp2_with (first | ((with_reducible refine gate_callee (f := 38) rfl ?_); refine goesL_ (some 94) rfl rfl Try.func38 (by kernel_rfl) rfl #[.int .i64 (wrap64 (Int.tdiv t142 t144))] rfl (by (try simp only [List.map_toArray, List.map_cons, List.map_nil]); first | done | rfl | (simp only [List.length_drop, List.length_take]; rfl)) ?_; (with_reducible refine (eddywheelref01_Int.calls (wrap64 (Int.tdiv t142 t144)) t153 t154 _ A31.out).mono ?_); rintro e w' ⟨rfl, ⟨nd, rfl⟩⟩; refine ⟨_, rfl, ?_⟩))
                              go_ret2
                              exact ⟨by first | rfl | (simp [errW_none, errW_some] <;> rfl) | (simp [*, errW_none, errW_some] <;> rfl), by repeat (first | (with_reducible first | exact HB.out | apply below_alloc | apply pw_below_drewN | apply below_drew1) | exact HB.out)⟩
                          · rw [if_neg c29] at H
                            have c29b0 : (a0 == 47) = false := beq_eq_false_iff_ne.mpr c29
                            have c29b1 : (a0 != 47) = true := bne_iff_ne.mpr c29
                            by_cases c32 : a0 = 37
                            · rw [if_pos c32] at H
                              have c32b0 : (a0 == 37) = true := beq_iff_eq.mpr c32
                              have c32b1 : (a0 != 37) = false := bne_eq_false_iff_eq.mpr c32
                              clear c32
                              by_cases c33 : t144 = 0
                              · rw [if_pos c33] at H
                                exact absurd H (by simp)
                              · rw [if_neg c33] at H
                                have c33b0 : (t144 == 0) = false := beq_eq_false_iff_ne.mpr c33
                                have c33b1 : (t144 != 0) = true := bne_iff_ne.mpr c33
                                replace H := Option.bind_eq_some_iff.mp H
                                obtain ⟨⟨t155, t156⟩, A340, H⟩ := H
                                replace H : (some (t155, t156)) = some (r1, r2) := H
                                have A34 := Aside0.mk A340
                                clear A340
                                simp only [Option.some.injEq, Prod.mk.injEq] at H
                                obtain ⟨rfl, rfl⟩ := H
                                go_wp2_with (first | ((with_reducible refine gate_callee (f := 38) rfl ?_); refine goesL_ (some 106) rfl rfl Try.func38 (by kernel_rfl) rfl #[.int .i64 (wrap64 (t142 - (wrap64 ((wrap64 (Int.tdiv t142 t144)) * t144))))] rfl (by (try simp only [List.map_toArray, List.map_cons, List.map_nil]); first | done | rfl | (simp only [List.length_drop, List.length_take]; rfl)) ?_; (with_reducible refine (eddywheelref01_Int.calls (wrap64 (t142 - (wrap64 ((wrap64 (Int.tdiv t142 t144)) * t144)))) t155 t156 _ A34.out).mono ?_); rintro e w' ⟨rfl, ⟨nd, rfl⟩⟩; refine ⟨_, rfl, ?_⟩))
                                go_ret2
                                exact ⟨by first | rfl | (simp [errW_none, errW_some] <;> rfl) | (simp [*, errW_none, errW_some] <;> rfl), by repeat (first | (with_reducible first | exact HB.out | apply below_alloc | apply pw_below_drewN | apply below_drew1) | exact HB.out)⟩
                            · rw [if_neg c32] at H
                              have c32b0 : (a0 == 37) = false := beq_eq_false_iff_ne.mpr c32
                              have c32b1 : (a0 != 37) = true := bne_iff_ne.mpr c32
                              by_cases c35 : a0 = 60
                              · rw [if_pos c35] at H
                                have c35b0 : (a0 == 60) = true := beq_iff_eq.mpr c35
                                have c35b1 : (a0 != 60) = false := bne_eq_false_iff_eq.mpr c35
                                clear c35
                                replace H := Option.bind_eq_some_iff.mp H
                                obtain ⟨t157, A360, H⟩ := H
                                replace H : (some (t157, 0)) = some (r1, r2) := H
                                have A36 := Aside0.mk A360
                                clear A360
                                simp only [Option.some.injEq, Prod.mk.injEq] at H
                                obtain ⟨rfl, rfl⟩ := H
                                go_wp2_with (first | ((with_reducible refine gate_callee (f := 26) rfl ?_); refine goesL_ (some 114) rfl rfl Try.func26 (by kernel_rfl) rfl #[.bool (decide (t142 < t144))] rfl (by (try simp only [List.map_toArray, List.map_cons, List.map_nil]); first | done | rfl | (simp only [List.length_drop, List.length_take]; rfl)) ?_; (with_reducible refine (eddywheelref01_Bool.calls (decide (t142 < t144)) t157 _ A36.out).mono ?_); rintro e w' ⟨rfl, ⟨nd, rfl⟩⟩; refine ⟨_, rfl, ?_⟩))
                                go_ret2
                                exact ⟨by first | rfl | (simp [errW_none, errW_some] <;> rfl) | (simp [*, errW_none, errW_some] <;> rfl), by repeat (first | (with_reducible first | exact HB.out | apply below_alloc | apply pw_below_drewN | apply below_drew1) | exact HB.out)⟩
                              · rw [if_neg c35] at H
                                have c35b0 : (a0 == 60) = false := beq_eq_false_iff_ne.mpr c35
                                have c35b1 : (a0 != 60) = true := bne_iff_ne.mpr c35
                                replace H := Option.bind_eq_some_iff.mp H
                                obtain ⟨t158, A370, H⟩ := H
                                replace H : (some (t158, 0)) = some (r1, r2) := H
                                have A37 := Aside0.mk A370
                                clear A370
                                simp only [Option.some.injEq, Prod.mk.injEq] at H
                                obtain ⟨rfl, rfl⟩ := H
                                go_wp2_with (first | ((with_reducible refine gate_callee (f := 26) rfl ?_); refine goesL_ (some 118) rfl rfl Try.func26 (by kernel_rfl) rfl #[.bool (t142 == t144)] rfl (by (try simp only [List.map_toArray, List.map_cons, List.map_nil]); first | done | rfl | (simp only [List.length_drop, List.length_take]; rfl)) ?_; (with_reducible refine (eddywheelref01_Bool.calls (t142 == t144) t158 _ A37.out).mono ?_); rintro e w' ⟨rfl, ⟨nd, rfl⟩⟩; refine ⟨_, rfl, ?_⟩))
                                go_ret2
                                exact ⟨by first | rfl | (simp [errW_none, errW_some] <;> rfl) | (simp [*, errW_none, errW_some] <;> rfl), by repeat (first | (with_reducible first | exact HB.out | apply below_alloc | apply pw_below_drewN | apply below_drew1) | exact HB.out)⟩

/-! ### eddywheelref01_To: function 28 -/
def eddywheelref01_To.f (a0 : Int) (a1 : Int) : Option (Int × Bool) := (eddywheelref01_Of.f a0 (wrap64 (IntKind.u64.wrap (Int.tdiv a1 8)))).bind fun bt159 => (if bt159.2 = 0 then (if bt159.1 = a1 then (some (wrap64 (IntKind.u64.wrap (Int.tdiv a1 8)), true)) else (some (0, false))) else (some (0, false)))
set_option maxHeartbeats 8000000 in
set_option maxRecDepth 100000 in
theorem eddywheelref01_To.calls (a0 : Int) (a1 : Int) (r1 : Int) (r2 : Bool) (w : World) (h : eddywheelref01_To.f a0 a1 = some (r1, r2)) :
    Calls Try.prog 28 #[.int .i64 a0, .int .u64 a1] w fun e w' => e = .returned (.tuple #[.int .i64 r1, .bool r2]) ∧ Drawn0 w w' := by
  have H : ((eddywheelref01_Of.f a0 (wrap64 (IntKind.u64.wrap (Int.tdiv a1 8)))).bind fun bt159 => (if bt159.2 = 0 then (if bt159.1 = a1 then (some (wrap64 (IntKind.u64.wrap (Int.tdiv a1 8)), true)) else (some (0, false))) else (some (0, false)))) = some (r1, r2) := h
  clear h
  replace H := Option.bind_eq_some_iff.mp H
  obtain ⟨⟨t159, t160⟩, A30, H⟩ := H
  replace H : (if t160 = 0 then (if t159 = a1 then (some (wrap64 (IntKind.u64.wrap (Int.tdiv a1 8)), true)) else (some (0, false))) else (some (0, false))) = some (r1, r2) := H
  have A3 := Aside0.mk A30
  clear A30
  by_cases c4 : t160 = 0
  · rw [if_pos c4] at H
    have c4b0 : (t160 == 0) = true := beq_iff_eq.mpr c4
    have c4b1 : (t160 != 0) = false := bne_eq_false_iff_eq.mpr c4
    clear c4
    by_cases c5 : t159 = a1
    · rw [if_pos c5] at H
      have c5b0 : (t159 == a1) = true := beq_iff_eq.mpr c5
      have c5b1 : (t159 != a1) = false := bne_eq_false_iff_eq.mpr c5
      clear c5
      simp only [Option.some.injEq, Prod.mk.injEq] at H
      obtain ⟨rfl, rfl⟩ := H
      go_enter Try.func28, Try.ntmps28
      go_wp2_with (first | ((with_reducible refine gate_callee (f := 20) rfl ?_); refine goesL_ (some 15) rfl rfl Try.func20 (by kernel_rfl) rfl #[.int .i64 a0, .int .i64 (wrap64 (IntKind.u64.wrap (Int.tdiv a1 8)))] rfl (by (try simp only [List.map_toArray, List.map_cons, List.map_nil]); first | done | rfl | (simp only [List.length_drop, List.length_take]; rfl)) ?_; (with_reducible refine (eddywheelref01_Of.calls a0 (wrap64 (IntKind.u64.wrap (Int.tdiv a1 8))) t159 t160 _ A3.out).mono ?_); rintro e w' ⟨rfl, ⟨nd, rfl⟩⟩; refine ⟨_, rfl, ?_⟩))
      go_ret2
      exact ⟨by first | rfl | (simp; done) | (simp [*]; done), by repeat (first | exact Drawn0.refl _ | apply Drawn0.step)⟩
    · rw [if_neg c5] at H
      have c5b0 : (t159 == a1) = false := beq_eq_false_iff_ne.mpr c5
      have c5b1 : (t159 != a1) = true := bne_iff_ne.mpr c5
      simp only [Option.some.injEq, Prod.mk.injEq] at H
      obtain ⟨rfl, rfl⟩ := H
      go_enter Try.func28, Try.ntmps28
      go_wp2_with (first | ((with_reducible refine gate_callee (f := 20) rfl ?_); refine goesL_ (some 15) rfl rfl Try.func20 (by kernel_rfl) rfl #[.int .i64 a0, .int .i64 (wrap64 (IntKind.u64.wrap (Int.tdiv a1 8)))] rfl (by (try simp only [List.map_toArray, List.map_cons, List.map_nil]); first | done | rfl | (simp only [List.length_drop, List.length_take]; rfl)) ?_; (with_reducible refine (eddywheelref01_Of.calls a0 (wrap64 (IntKind.u64.wrap (Int.tdiv a1 8))) t159 t160 _ A3.out).mono ?_); rintro e w' ⟨rfl, ⟨nd, rfl⟩⟩; refine ⟨_, rfl, ?_⟩))
      go_ret2
      exact ⟨by first | rfl | (simp; done) | (simp [*]; done), by repeat (first | exact Drawn0.refl _ | apply Drawn0.step)⟩
  · rw [if_neg c4] at H
    have c4b0 : (t160 == 0) = false := beq_eq_false_iff_ne.mpr c4
    have c4b1 : (t160 != 0) = true := bne_iff_ne.mpr c4
    simp only [Option.some.injEq, Prod.mk.injEq] at H
    obtain ⟨rfl, rfl⟩ := H
    go_enter Try.func28, Try.ntmps28
    go_wp2_with (first | ((with_reducible refine gate_callee (f := 20) rfl ?_); refine goesL_ (some 15) rfl rfl Try.func20 (by kernel_rfl) rfl #[.int .i64 a0, .int .i64 (wrap64 (IntKind.u64.wrap (Int.tdiv a1 8)))] rfl (by (try simp only [List.map_toArray, List.map_cons, List.map_nil]); first | done | rfl | (simp only [List.length_drop, List.length_take]; rfl)) ?_; (with_reducible refine (eddywheelref01_Of.calls a0 (wrap64 (IntKind.u64.wrap (Int.tdiv a1 8))) t159 t160 _ A3.out).mono ?_); rintro e w' ⟨rfl, ⟨nd, rfl⟩⟩; refine ⟨_, rfl, ?_⟩))
    go_ret2
    exact ⟨by first | rfl | (simp; done) | (simp [*]; done), by repeat (first | exact Drawn0.refl _ | apply Drawn0.step)⟩

end Go.Proofs.Ytoofnpecofcjjaa.PPrimPlays

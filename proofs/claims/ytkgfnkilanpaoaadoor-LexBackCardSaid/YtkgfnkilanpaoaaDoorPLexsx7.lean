-- Written by xprint.py (a program of the prover's) over the kit's printer.
import Derived.Test.YtkgfnkilanpaoaaDoorPLexsx0
import Derived.Test.YtkgfnkilanpaoaaDoorPLexsx2
namespace Go.Proofs.YtkgfnkilanpaoaaDoor.PLexs
open Go.RowKit Go.Proofs.YtkgfnkilanpaoaaDoorW.PrintWords Go.Proofs.YtkgfnkilanpaoaaDoorW.PrintLast Go.Proofs.YtkgfnkilanpaoaaDoorW.PrintMore
attribute [local go_sem] max2_int min2_int max_two min_two max_three min_three max_four min_four   -- for this text's walks alone
set_option linter.unusedVariables false
set_option linter.unusedSimpArgs false

/-! ### eddywheellaw05_LexCuts: function 8 -/
mutual
def eddywheellaw05_LexCuts.j1 : Nat → ByteArray → Bool → Int → Option (Bool)
  | 0, _, _, _ => none
  | k + 1, x0, x5, x6 => if 0 ≤ x6 then (if x6 ≤ (x0.size : Int) then ((lex_Lex.f (x0.extract 0 (x6 : Int).toNat)).bind fun bt234 => ((lex_Lex.f x0).bind fun bt239 => (if bt234.2.2 = 0 then (eddywheellaw05_LexCuts.j2 k x5 x6 bt234.1 bt234.2.2 bt239.1 bt239.2.2 (bt239.2.2 != 0)) else (eddywheellaw05_LexCuts.j2 k x5 x6 bt234.1 bt234.2.2 bt239.1 bt239.2.2 true)))) else (none)) else (none)
def eddywheellaw05_LexCuts.j2 : Nat → Bool → Int → List (S30) → Int → List (S30) → Int → Bool → Option (Bool)
  | 0, _, _, _, _, _, _, _ => none
  | k + 1, x5, x6, x7, x9, x10, x12, x61 => if x61 = true then (if x5 = true then (if x9 = 0 then (some true) else (some (x12 != 0))) else (some false)) else (if (x7.length : Int) > (x10.length : Int) then (some false) else (if x5 = true then (if 0 ≤ (x7.length : Int) then (if (x7.length : Int) ≤ (x10.length : Int) then ((eddywheelref05_Same.f k x7 (x10.take ((x7.length : Int) : Int).toNat)).bind fun t248 => (if t248 = true then (if (x7.length : Int) = (x10.length : Int) then (some true) else (if (x7.length : Int) < (x10.length : Int) then (some (decide (((rd_T30 x10 (x7.length : Int)).f1) ≥ x6))) else (none))) else (some false))) else (none)) else (none)) else (some false)))
def eddywheellaw05_LexCuts.l0 : Nat → ByteArray → Bool → Int → Option (Bool)
  | 0, _, _, _ => none
  | k + 1, x0, x5, x6 => if x6 < (x0.size : Int) then (if 0 ≤ x6 then (if (bt x0 x6) = 32 then (eddywheellaw05_LexCuts.j1 k x0 x5 x6) else (if (bt x0 x6) = 10 then (eddywheellaw05_LexCuts.j1 k x0 x5 x6) else (eddywheellaw05_LexCuts.l0 k x0 x5 (wrap64 (x6 + 1))))) else (none)) else (eddywheellaw05_LexCuts.j1 k x0 x5 x6)
end
def eddywheellaw05_LexCuts.f (k : Nat) (a0 : ByteArray) (a1 : Int) : Option (Bool) := (eddywheellaw05_shown.f k).bind fun t233 => (if (a0.size : Int) > 500 then (some t233) else (if (wrap64 ((a0.size : Int) + 1)) = 0 then (none) else (eddywheellaw05_LexCuts.l0 k a0 t233 (Int.tmod (wrap64 (a1)) (wrap64 ((a0.size : Int) + 1))))))
theorem eddywheellaw05_LexCuts.mono_l : ∀ k, (∀ y0 y1 y2, LeO (eddywheellaw05_LexCuts.j1 k y0 y1 y2) (eddywheellaw05_LexCuts.j1 (k + 1) y0 y1 y2)) ∧ (∀ y0 y1 y2 y3 y4 y5 y6, LeO (eddywheellaw05_LexCuts.j2 k y0 y1 y2 y3 y4 y5 y6) (eddywheellaw05_LexCuts.j2 (k + 1) y0 y1 y2 y3 y4 y5 y6)) ∧ (∀ y0 y1 y2, LeO (eddywheellaw05_LexCuts.l0 k y0 y1 y2) (eddywheellaw05_LexCuts.l0 (k + 1) y0 y1 y2))
  | 0 => ⟨fun _ _ _ r h => by simp [eddywheellaw05_LexCuts.j1] at h, fun _ _ _ _ _ _ _ r h => by simp [eddywheellaw05_LexCuts.j2] at h, fun _ _ _ r h => by simp [eddywheellaw05_LexCuts.l0] at h⟩
  | k + 1 => by
    obtain ⟨ih0, ih1, ih2⟩ := eddywheellaw05_LexCuts.mono_l k
    refine ⟨?_, ?_, ?_⟩
    · intro y0 y1 y2
      unfold eddywheellaw05_LexCuts.j1
      repeat' first
      | (with_reducible exact ih0 _ _ _)
      | (with_reducible exact ih1 _ _ _ _ _ _ _)
      | (with_reducible exact ih2 _ _ _)
      | (with_reducible exact eddywheellaw05_shown.mono _)
      | (with_reducible exact eddywheelref05_Same.mono _ _ _)
      | (with_reducible exact LeO.refl _)
      | (with_reducible exact LeO.none _)
      | (with_reducible refine LeO.ite ?_ ?_)
      | (with_reducible refine LeO.bind ?_ (fun _ => ?_))
      | exact ih0 _ _ _
      | exact ih1 _ _ _ _ _ _ _
      | exact ih2 _ _ _
      | exact eddywheellaw05_shown.mono _
      | exact eddywheelref05_Same.mono _ _ _
      | exact LeO.none _
      | refine LeO.ite ?_ ?_
      | refine LeO.bind ?_ (fun _ => ?_)
    · intro y0 y1 y2 y3 y4 y5 y6
      unfold eddywheellaw05_LexCuts.j2
      repeat' first
      | (with_reducible exact ih0 _ _ _)
      | (with_reducible exact ih1 _ _ _ _ _ _ _)
      | (with_reducible exact ih2 _ _ _)
      | (with_reducible exact eddywheellaw05_shown.mono _)
      | (with_reducible exact eddywheelref05_Same.mono _ _ _)
      | (with_reducible exact LeO.refl _)
      | (with_reducible exact LeO.none _)
      | (with_reducible refine LeO.ite ?_ ?_)
      | (with_reducible refine LeO.bind ?_ (fun _ => ?_))
      | exact ih0 _ _ _
      | exact ih1 _ _ _ _ _ _ _
      | exact ih2 _ _ _
      | exact eddywheellaw05_shown.mono _
      | exact eddywheelref05_Same.mono _ _ _
      | exact LeO.none _
      | refine LeO.ite ?_ ?_
      | refine LeO.bind ?_ (fun _ => ?_)
    · intro y0 y1 y2
      unfold eddywheellaw05_LexCuts.l0
      repeat' first
      | (with_reducible exact ih0 _ _ _)
      | (with_reducible exact ih1 _ _ _ _ _ _ _)
      | (with_reducible exact ih2 _ _ _)
      | (with_reducible exact eddywheellaw05_shown.mono _)
      | (with_reducible exact eddywheelref05_Same.mono _ _ _)
      | (with_reducible exact LeO.refl _)
      | (with_reducible exact LeO.none _)
      | (with_reducible refine LeO.ite ?_ ?_)
      | (with_reducible refine LeO.bind ?_ (fun _ => ?_))
      | exact ih0 _ _ _
      | exact ih1 _ _ _ _ _ _ _
      | exact ih2 _ _ _
      | exact eddywheellaw05_shown.mono _
      | exact eddywheelref05_Same.mono _ _ _
      | exact LeO.none _
      | refine LeO.ite ?_ ?_
      | refine LeO.bind ?_ (fun _ => ?_)
theorem eddywheellaw05_LexCuts.mono : ∀ a0 a1 k, LeO (eddywheellaw05_LexCuts.f k a0 a1) (eddywheellaw05_LexCuts.f (k + 1) a0 a1) := by
  intro a0 a1 k
  obtain ⟨ih0, ih1, ih2⟩ := eddywheellaw05_LexCuts.mono_l k
  unfold eddywheellaw05_LexCuts.f
  repeat' first
      | (with_reducible exact ih0 _ _ _)
      | (with_reducible exact ih1 _ _ _ _ _ _ _)
      | (with_reducible exact ih2 _ _ _)
      | (with_reducible exact eddywheellaw05_shown.mono _)
      | (with_reducible exact eddywheelref05_Same.mono _ _ _)
      | (with_reducible exact LeO.refl _)
      | (with_reducible exact LeO.none _)
      | (with_reducible refine LeO.ite ?_ ?_)
      | (with_reducible refine LeO.bind ?_ (fun _ => ?_))
      | exact ih0 _ _ _
      | exact ih1 _ _ _ _ _ _ _
      | exact ih2 _ _ _
      | exact eddywheellaw05_shown.mono _
      | exact eddywheelref05_Same.mono _ _ _
      | exact LeO.none _
      | refine LeO.ite ?_ ?_
      | refine LeO.bind ?_ (fun _ => ?_)
set_option maxHeartbeats 8000000 in
set_option maxRecDepth 100000 in
theorem eddywheellaw05_LexCuts.calls (k : Nat) (a0 : ByteArray) (a1 : Int) (r : Bool) (w : World) (h : eddywheellaw05_LexCuts.f k a0 a1 = some r) (hV : Aside0 (Go.Proofs.YtkgfnkilanpaoaaDoor.LexC.Vars w) := by first | exact hV | exact ⟨Go.Proofs.YtkgfnkilanpaoaaDoor.LexC.Vars.below hV.out (by repeat (first | (with_reducible first | exact HB.out | apply below_alloc | apply pw_below_drewN | apply below_drew1 | refine below_set ?_ (Aside0.out (by assumption))) | exact HB.out)) (Nat.le_refl _)⟩) :
    Calls Tryd.prog 8 #[.string a0, .int .u16 a1] w fun e w' => e = .returned (.bool r) ∧ Below w.heap.size w w' := by
  have HB := Aside0.mk (Below.refl w.heap.size w)
  have H : ((eddywheellaw05_shown.f k).bind fun t233 => (if (a0.size : Int) > 500 then (some t233) else (if (wrap64 ((a0.size : Int) + 1)) = 0 then (none) else (eddywheellaw05_LexCuts.l0 k a0 t233 (Int.tmod (wrap64 (a1)) (wrap64 ((a0.size : Int) + 1))))))) = some r := h
  clear h
  replace H := Option.bind_eq_some_iff.mp H
  obtain ⟨t233, A30, H⟩ := H
  replace H : (if (a0.size : Int) > 500 then (some t233) else (if (wrap64 ((a0.size : Int) + 1)) = 0 then (none) else (eddywheellaw05_LexCuts.l0 k a0 t233 (Int.tmod (wrap64 (a1)) (wrap64 ((a0.size : Int) + 1)))))) = some r := H
  have A3 := Aside0.mk A30
  clear A30
  by_cases c4 : (a0.size : Int) > 500
  · rw [if_pos c4] at H
    have c4b0 : decide (500 < (a0.size : Int)) = true := decide_eq_true c4
    have c4b1 : decide (500 < a0.size) = true := decide_eq_true (by omega)
    clear c4
    obtain rfl := Option.some.inj H
    go_enter Tryd.func8, Tryd.ntmps8
    go_wp2_with (first | ((with_reducible refine gate_callee (f := 9) rfl ?_); refine goesL_ (some 13) rfl rfl Tryd.func9 (by kernel_rfl) rfl #[] rfl (by (try simp only [List.map_toArray, List.map_cons, List.map_nil]); first | done | rfl | (simp only [List.length_drop, List.length_take]; rfl)) ?_; (with_reducible refine (eddywheellaw05_shown.calls k  t233 _ A3.out).mono ?_); rintro e w5 ⟨rfl, hb⟩; refine ⟨_, rfl, ?_⟩; have n0_ := Aside0.mk (below_step (by repeat (first | (with_reducible first | exact HB.out | apply below_alloc | apply pw_below_drewN | apply below_drew1) | exact HB.out)) hb); clear HB; have HB := n0_; clear n0_; (try clear hb); (try clear hb2); (try clear hk); (try clear hi)))
    go_ret
    exact ⟨by first | rfl | (simp [errW_none, errW_some] <;> rfl) | (simp [*, errW_none, errW_some] <;> rfl), by repeat (first | (with_reducible first | exact HB.out | apply below_alloc | apply pw_below_drewN | apply below_drew1) | exact HB.out)⟩
  · rw [if_neg c4] at H
    have c4b0 : decide (500 < (a0.size : Int)) = false := decide_eq_false c4
    have c4b1 : decide (500 < a0.size) = false := decide_eq_false (by omega)
    clear c4
    by_cases c6 : (wrap64 ((a0.size : Int) + 1)) = 0
    · rw [if_pos c6] at H
      exact absurd H (by simp)
    · rw [if_neg c6] at H
      have c6b0 : ((wrap64 ((a0.size : Int) + 1)) == 0) = false := beq_eq_false_iff_ne.mpr c6
      have c6b1 : ((wrap64 ((a0.size : Int) + 1)) != 0) = true := bne_iff_ne.mpr c6
      have HC7 := Aside0.mk H
      clear H
      go_enter Tryd.func8, Tryd.ntmps8
      go_upto_block 0 with (first | ((with_reducible refine gate_callee (f := 9) rfl ?_); refine goesL_ (some 13) rfl rfl Tryd.func9 (by kernel_rfl) rfl #[] rfl (by (try simp only [List.map_toArray, List.map_cons, List.map_nil]); first | done | rfl | (simp only [List.length_drop, List.length_take]; rfl)) ?_; (with_reducible refine (eddywheellaw05_shown.calls k  t233 _ A3.out).mono ?_); rintro e w8 ⟨rfl, hb⟩; refine ⟨_, rfl, ?_⟩; have n0_ := Aside0.mk (below_step (by repeat (first | (with_reducible first | exact HB.out | apply below_alloc | apply pw_below_drewN | apply below_drew1) | exact HB.out)) hb); clear HB; have HB := n0_; clear n0_; (try clear hb); (try clear hb2); (try clear hk); (try clear hi)))
      (try simp only [Act.put, List.setIfInBounds_toArray, List.set_cons_zero, List.set_cons_succ])
      go_cut [6] (fun v6 wc => ∃ (kq : Nat) (x6_6 : Int), v6 = .int .i64 x6_6 ∧ Aside0 (eddywheellaw05_LexCuts.j1 kq a0 t233 x6_6 = some r) ∧ Aside0 (kq ≤ k) ∧ Aside0 (Below w.heap.size w wc))
      case first =>
        have H := HC7.out
        clear HC7
        have H' := Aside0.mk H
        clear H
        go_wp2
        go_loopg [6] k (fun kq v6 w' => ∃ (x6_1 : Int), v6 = .int .i64 x6_1 ∧ Aside0 (eddywheellaw05_LexCuts.l0 kq a0 t233 x6_1 = some r) ∧ Aside0 (kq ≤ k) ∧ Aside0 (Below w.heap.size w w'))
        case atStart => exact ⟨(Int.tmod (wrap64 (a1)) (wrap64 ((a0.size : Int) + 1))), (by first | rfl | (simp; done) | (simp [*]; done)), H', ⟨Nat.le_refl _⟩, ⟨by repeat (first | (with_reducible first | exact HB.out | apply below_alloc | apply pw_below_drewN | apply below_drew1) | exact HB.out)⟩⟩
        case round =>
          clear H'
          try clear p2
          try clear c4
          try clear c4b0
          try clear c4b1
          try clear c6
          try clear c6b0
          try clear c6b1
          try clear p6
          try clear c8
          obtain ⟨x6_1, rfl, HA, HK1, HB⟩ := hrel
          cases gk with
          | zero => exact absurd HA.out (by simp [eddywheellaw05_LexCuts.l0])
          | succ k1 =>
            have H := HA.out
            clear HA
            simp only [eddywheellaw05_LexCuts.l0] at H
            by_cases c9 : x6_1 < (a0.size : Int)
            · rw [if_pos c9] at H
              have c9b0 : decide (x6_1 < (a0.size : Int)) = true := decide_eq_true c9
              clear c9
              (first | rw [c9b0] | (simp only [i64_w, i32_w]; rw [c9b0]) | skip)
              by_cases c10 : 0 ≤ x6_1
              · rw [if_pos c10] at H
                have c10b0 : decide (0 ≤ x6_1) = true := decide_eq_true c10
                clear c10
                by_cases c12 : (bt a0 x6_1) = 32
                · rw [if_pos c12] at H
                  have c12b0 : ((bt a0 x6_1) == 32) = true := beq_iff_eq.mpr c12
                  have c12b1 : ((bt a0 x6_1) != 32) = false := bne_eq_false_iff_eq.mpr c12
                  clear c12
                  have H' := Aside0.mk H
                  clear H
                  have p11 : 0 ≤ (x6_1 : Int) := of_decide_eq_true (by first | (with_reducible assumption) | assumption)
                  have q11 : x6_1 < (a0.size : Int) := of_decide_eq_true (by first | (with_reducible assumption) | assumption)
                  have hx11 := bt_at a0 x6_1
                  replace p11 := eq_true p11
                  replace q11 := eq_true q11
                  go_wp2
                  go_meet
                  case rel => exact ⟨_, (x6_1), (by first | rfl | (simp; done) | (simp [*]; done)), H', ⟨by have := HK1.out; first | omega | exact Nat.le_refl _⟩, ⟨by repeat (first | (with_reducible first | exact HB.out | apply below_alloc | apply pw_below_drewN | apply below_drew1) | exact HB.out)⟩⟩
                · rw [if_neg c12] at H
                  have c12b0 : ((bt a0 x6_1) == 32) = false := beq_eq_false_iff_ne.mpr c12
                  have c12b1 : ((bt a0 x6_1) != 32) = true := bne_iff_ne.mpr c12
                  by_cases c14 : (bt a0 x6_1) = 10
                  · rw [if_pos c14] at H
                    have c14b0 : ((bt a0 x6_1) == 10) = true := beq_iff_eq.mpr c14
                    have c14b1 : ((bt a0 x6_1) != 10) = false := bne_eq_false_iff_eq.mpr c14
                    clear c14
                    have H' := Aside0.mk H
                    clear H
                    have p11 : 0 ≤ (x6_1 : Int) := of_decide_eq_true (by first | (with_reducible assumption) | assumption)
                    have q11 : x6_1 < (a0.size : Int) := of_decide_eq_true (by first | (with_reducible assumption) | assumption)
                    have hx11 := bt_at a0 x6_1
                    replace p11 := eq_true p11
                    replace q11 := eq_true q11
                    have p13 : 0 ≤ (x6_1 : Int) := of_decide_eq_true (by first | (with_reducible assumption) | assumption)
                    have q13 : x6_1 < (a0.size : Int) := of_decide_eq_true (by first | (with_reducible assumption) | assumption)
                    have hx13 := bt_at a0 x6_1
                    replace p13 := eq_true p13
                    replace q13 := eq_true q13
                    go_wp2
                    go_meet
                    case rel => exact ⟨_, (x6_1), (by first | rfl | (simp; done) | (simp [*]; done)), H', ⟨by have := HK1.out; first | omega | exact Nat.le_refl _⟩, ⟨by repeat (first | (with_reducible first | exact HB.out | apply below_alloc | apply pw_below_drewN | apply below_drew1) | exact HB.out)⟩⟩
                  · rw [if_neg c14] at H
                    have c14b0 : ((bt a0 x6_1) == 10) = false := beq_eq_false_iff_ne.mpr c14
                    have c14b1 : ((bt a0 x6_1) != 10) = true := bne_iff_ne.mpr c14
                    have H' := Aside0.mk H
                    clear H
                    have p11 : 0 ≤ (x6_1 : Int) := of_decide_eq_true (by first | (with_reducible assumption) | assumption)
                    have q11 : x6_1 < (a0.size : Int) := of_decide_eq_true (by first | (with_reducible assumption) | assumption)
                    have hx11 := bt_at a0 x6_1
                    replace p11 := eq_true p11
                    replace q11 := eq_true q11
                    have p13 : 0 ≤ (x6_1 : Int) := of_decide_eq_true (by first | (with_reducible assumption) | assumption)
                    have q13 : x6_1 < (a0.size : Int) := of_decide_eq_true (by first | (with_reducible assumption) | assumption)
                    have hx13 := bt_at a0 x6_1
                    replace p13 := eq_true p13
                    replace q13 := eq_true q13
                    go_wp2
                    go_roundg k1
                    case measure => have := HK1.out; omega
                    case rel => exact ⟨(wrap64 (x6_1 + 1)), (by first | rfl | (simp; done) | (simp [*]; done)), H', ⟨by have := HK1.out; omega⟩, ⟨by repeat (first | (with_reducible first | exact HB.out | apply below_alloc | apply pw_below_drewN | apply below_drew1) | exact HB.out)⟩⟩
              · rw [if_neg c10] at H
                exact absurd H (by simp)
            · rw [if_neg c9] at H
              have c9b0 : decide (x6_1 < (a0.size : Int)) = false := decide_eq_false c9
              clear c9
              (first | rw [c9b0] | (simp only [i64_w, i32_w]; rw [c9b0]) | skip)
              have H' := Aside0.mk H
              clear H
              go_wp2
              go_meet
              case rel => exact ⟨_, (x6_1), (by first | rfl | (simp; done) | (simp [*]; done)), H', ⟨by have := HK1.out; first | omega | exact Nat.le_refl _⟩, ⟨by repeat (first | (with_reducible first | exact HB.out | apply below_alloc | apply pw_below_drewN | apply below_drew1) | exact HB.out)⟩⟩
      case rest =>
        clear HC7
        try clear c1
        try clear p1
        try clear q1
        try clear hx1
        try clear p2
        try clear c4
        try clear c4b0
        try clear c4b1
        try clear c6
        try clear c6b0
        try clear c6b1
        try clear p6
        try clear c8
        try clear c9
        try clear c9b0
        try clear c10
        try clear c10b0
        try clear p11
        try clear q11
        try clear hx11
        try clear c12
        try clear c12b0
        try clear c12b1
        try clear p13
        try clear q13
        try clear hx13
        try clear c14
        try clear c14b0
        try clear c14b1
        try clear p11
        try clear p13
        try clear p2
        try clear p6
        try clear q11
        try clear q13
        obtain ⟨kq, x6_6, rfl, HA, HJ6, HB⟩ := hcut
        cases kq with
        | zero => exact absurd HA.out (by simp [eddywheellaw05_LexCuts.j1])
        | succ kj6 =>
          have H := HA.out
          clear HA
          simp only [eddywheellaw05_LexCuts.j1] at H
          by_cases c15 : 0 ≤ x6_6
          · rw [if_pos c15] at H
            have c15b0 := eq_true c15
            have c15b1 : decide (0 ≤ x6_6) = true := decide_eq_true c15
            clear c15
            by_cases c16 : x6_6 ≤ (a0.size : Int)
            · rw [if_pos c16] at H
              have c16b0 := eq_true c16
              have c16b1 : decide (x6_6 ≤ (a0.size : Int)) = true := decide_eq_true c16
              clear c16
              replace H := Option.bind_eq_some_iff.mp H
              obtain ⟨⟨t234, t235, t236⟩, A170, H⟩ := H
              replace H : ((lex_Lex.f a0).bind fun bt239 => (if t236 = 0 then (eddywheellaw05_LexCuts.j2 kj6 t233 x6_6 t234 t236 bt239.1 bt239.2.2 (bt239.2.2 != 0)) else (eddywheellaw05_LexCuts.j2 kj6 t233 x6_6 t234 t236 bt239.1 bt239.2.2 true))) = some r := H
              have A17 := Aside0.mk A170
              clear A170
              replace H := Option.bind_eq_some_iff.mp H
              obtain ⟨⟨t239, t240, t241⟩, A180, H⟩ := H
              replace H : (if t236 = 0 then (eddywheellaw05_LexCuts.j2 kj6 t233 x6_6 t234 t236 t239 t241 (t241 != 0)) else (eddywheellaw05_LexCuts.j2 kj6 t233 x6_6 t234 t236 t239 t241 true)) = some r := H
              have A18 := Aside0.mk A180
              clear A180
              have HC19 := Aside0.mk H
              clear H
              go_upto_region 9 with (first | ((with_reducible refine gate_callee (f := 10) rfl ?_); refine goesL_ (some 46) rfl rfl Tryd.func10 (by kernel_rfl) rfl #[.string (a0.extract 0 (x6_6 : Int).toNat)] rfl (by (try simp only [List.map_toArray, List.map_cons, List.map_nil]); first | done | rfl | (simp only [List.length_drop, List.length_take]; rfl)) ?_; (with_reducible refine (lex_Lex.calls (a0.extract 0 (x6_6 : Int).toNat) t234 t235 t236 _ A17.out).mono ?_); rintro e w20 ⟨v237, rfl, ho0, hb⟩; refine ⟨_, rfl, ?_⟩; have n0_ := Aside0.mk (Kd.R_lower ho0 (below_size (by repeat (first | (with_reducible first | exact HB.out | apply below_alloc | apply pw_below_drewN | apply below_drew1) | exact HB.out)))); have n1_ := Aside0.mk (below_step (by repeat (first | (with_reducible first | exact HB.out | apply below_alloc | apply pw_below_drewN | apply below_drew1) | exact HB.out)) hb); clear HB; have HO238 := n0_; have HB := n1_; clear n0_ n1_; (try clear hb); (try clear hb2); (try clear hk); (try clear hi); (try clear ho0)) | ((with_reducible refine gate_callee (f := 10) rfl ?_); refine goesL_ (some 52) rfl rfl Tryd.func10 (by kernel_rfl) rfl #[.string a0] rfl (by (try simp only [List.map_toArray, List.map_cons, List.map_nil]); first | done | rfl | (simp only [List.length_drop, List.length_take]; rfl)) ?_; (with_reducible refine (lex_Lex.calls a0 t239 t240 t241 _ A18.out).mono ?_); rintro e w21 ⟨v242, rfl, ho0, hb⟩; refine ⟨_, rfl, ?_⟩; have n0_ := Aside0.mk (Kd.R_elder' (by (with_reducible repeat (first | apply Kd.R_alloc | apply Kd.R_drewN | apply Kd.R_drew)); exact HO238.out) (Kd.R_base ho0) hb); have n1_ := Aside0.mk (Kd.R_lower (Kd.R_new' ho0 (Kd.R_lt (by (with_reducible repeat (first | apply Kd.R_alloc | apply Kd.R_drewN | apply Kd.R_drew)); exact HO238.out))) (below_size (by repeat (first | (with_reducible first | exact HB.out | apply below_alloc | apply pw_below_drewN | apply below_drew1) | exact HB.out)))); have n2_ := Aside0.mk (below_step (by repeat (first | (with_reducible first | exact HB.out | apply below_alloc | apply pw_below_drewN | apply below_drew1) | exact HB.out)) hb); clear HO238; clear HB; have HO238 := n0_; have HO243 := n1_; have HB := n2_; clear n0_ n1_ n2_; (try clear hb); (try clear hb2); (try clear hk); (try clear hi); (try clear ho0)))
              (try simp only [Act.put, List.setIfInBounds_toArray, List.set_cons_zero, List.set_cons_succ])
              go_cut [61] (fun v61 wc => ∃ (kq : Nat) (x61_18 : Bool), v61 = .bool x61_18 ∧ Aside0 (eddywheellaw05_LexCuts.j2 kq t233 x6_6 t234 t236 t239 t241 x61_18 = some r) ∧ Aside0 (kq ≤ kj6) ∧ Aside0 (Kd.R k30 30 wc w.heap.size (fun k_ => some k_ ≠ (v242 : Value).ownBlock) v237 t234) ∧ Aside0 (Kd.R k30 30 wc w.heap.size (fun k_ => some k_ ≠ (v237 : Value).ownBlock) v242 t239) ∧ Aside0 (Below w.heap.size w wc))
              case first =>
                have H := HC19.out
                clear HC19
                by_cases c22 : t236 = 0
                · rw [if_pos c22] at H
                  have c22b0 : (t236 == 0) = true := beq_iff_eq.mpr c22
                  have c22b1 : (t236 != 0) = false := bne_eq_false_iff_eq.mpr c22
                  clear c22
                  (first | rw [c22b0] | (simp only [i64_w, i32_w]; rw [c22b0]) | skip)
                  have H' := Aside0.mk H
                  clear H
                  go_wp2
                  go_meet
                  case rel => exact ⟨_, ((t241 != 0)), (by first | rfl | (simp; done) | (simp [*]; done)), H', ⟨by have := HJ6.out; first | omega | exact Nat.le_refl _⟩, ⟨by (with_reducible repeat (first | apply Kd.R_alloc | apply Kd.R_drewN | apply Kd.R_drew)); exact Kd.R_mono HO238.out (fun _ hk => hk.2)⟩, ⟨by (with_reducible repeat (first | apply Kd.R_alloc | apply Kd.R_drewN | apply Kd.R_drew)); exact Kd.R_mono HO243.out (fun _ hk => hk.2)⟩, ⟨by repeat (first | (with_reducible first | exact HB.out | apply below_alloc | apply pw_below_drewN | apply below_drew1) | exact HB.out)⟩⟩
                · rw [if_neg c22] at H
                  have c22b0 : (t236 == 0) = false := beq_eq_false_iff_ne.mpr c22
                  have c22b1 : (t236 != 0) = true := bne_iff_ne.mpr c22
                  (first | rw [c22b0] | (simp only [i64_w, i32_w]; rw [c22b0]) | skip)
                  have H' := Aside0.mk H
                  clear H
                  go_wp2
                  go_meet
                  case rel => exact ⟨_, (true), (by first | rfl | (simp; done) | (simp [*]; done)), H', ⟨by have := HJ6.out; first | omega | exact Nat.le_refl _⟩, ⟨by (with_reducible repeat (first | apply Kd.R_alloc | apply Kd.R_drewN | apply Kd.R_drew)); exact Kd.R_mono HO238.out (fun _ hk => hk.2)⟩, ⟨by (with_reducible repeat (first | apply Kd.R_alloc | apply Kd.R_drewN | apply Kd.R_drew)); exact Kd.R_mono HO243.out (fun _ hk => hk.2)⟩, ⟨by repeat (first | (with_reducible first | exact HB.out | apply below_alloc | apply pw_below_drewN | apply below_drew1) | exact HB.out)⟩⟩
              case rest =>
                clear HC19
                try clear c1
                try clear p1
                try clear q1
                try clear hx1
                try clear c2
                try clear p2
                try clear c4
                try clear c4b0
                try clear c4b1
                try clear c6
                try clear c6b0
                try clear c6b1
                try clear p6
                try clear c8
                try clear c9
                try clear c9b0
                try clear c10
                try clear c10b0
                try clear p11
                try clear q11
                try clear hx11
                try clear c12
                try clear c12b0
                try clear c12b1
                try clear p13
                try clear q13
                try clear hx13
                try clear c14
                try clear c14b0
                try clear c14b1
                try clear c15
                try clear c15b0
                try clear c15b1
                try clear c16
                try clear c16b0
                try clear c16b1
                try clear c22
                try clear c22b0
                try clear c22b1
                try clear p1
                try clear p11
                try clear p13
                try clear p2
                try clear p6
                try clear q1
                try clear q11
                try clear q13
                obtain ⟨kq, x61_18, rfl, HA, HJ18, HO_7, HO_10, HB⟩ := hcut
                cases kq with
                | zero => exact absurd HA.out (by simp [eddywheellaw05_LexCuts.j2])
                | succ kj18 =>
                  have H := HA.out
                  clear HA
                  simp only [eddywheellaw05_LexCuts.j2] at H
                  by_cases c23 : x61_18 = true
                  · subst c23
                    have H1 : (if t233 = true then (if t236 = 0 then (some true) else (some (t241 != 0))) else (some false)) = some r := by rw [if_pos rfl] at H; exact H
                    clear H
                    have H := H1
                    clear H1
                    by_cases c24 : t233 = true
                    · subst c24
                      have H1 : (if t236 = 0 then (some true) else (some (t241 != 0))) = some r := by rw [if_pos rfl] at H; exact H
                      clear H
                      have H := H1
                      clear H1
                      by_cases c25 : t236 = 0
                      · rw [if_pos c25] at H
                        have c25b0 : (t236 == 0) = true := beq_iff_eq.mpr c25
                        have c25b1 : (t236 != 0) = false := bne_eq_false_iff_eq.mpr c25
                        clear c25
                        obtain rfl := Option.some.inj H
                        go_wp2
                        go_ret
                        exact ⟨by first | rfl | (simp [errW_none, errW_some] <;> rfl) | (simp [*, errW_none, errW_some] <;> rfl), by repeat (first | (with_reducible first | exact HB.out | apply below_alloc | apply pw_below_drewN | apply below_drew1) | exact HB.out)⟩
                      · rw [if_neg c25] at H
                        have c25b0 : (t236 == 0) = false := beq_eq_false_iff_ne.mpr c25
                        have c25b1 : (t236 != 0) = true := bne_iff_ne.mpr c25
                        obtain rfl := Option.some.inj H
                        go_wp2
                        go_ret
                        exact ⟨by first | rfl | (simp [errW_none, errW_some] <;> rfl) | (simp [*, errW_none, errW_some] <;> rfl), by repeat (first | (with_reducible first | exact HB.out | apply below_alloc | apply pw_below_drewN | apply below_drew1) | exact HB.out)⟩
                    · replace c24 := Bool.eq_false_iff.mpr c24
                      subst c24
                      have H1 : (some false) = some r := by rw [if_neg (show ¬ (false = true) by decide)] at H; exact H
                      clear H
                      have H := H1
                      clear H1
                      obtain rfl := Option.some.inj H
                      go_wp2
                      go_ret
                      exact ⟨by first | rfl | (simp [errW_none, errW_some] <;> rfl) | (simp [*, errW_none, errW_some] <;> rfl), by repeat (first | (with_reducible first | exact HB.out | apply below_alloc | apply pw_below_drewN | apply below_drew1) | exact HB.out)⟩
                  · replace c23 := Bool.eq_false_iff.mpr c23
                    subst c23
                    have H1 : (if (t234.length : Int) > (t239.length : Int) then (some false) else (if t233 = true then (if 0 ≤ (t234.length : Int) then (if (t234.length : Int) ≤ (t239.length : Int) then ((eddywheelref05_Same.f kj18 t234 (t239.take ((t234.length : Int) : Int).toNat)).bind fun t248 => (if t248 = true then (if (t234.length : Int) = (t239.length : Int) then (some true) else (if (t234.length : Int) < (t239.length : Int) then (some (decide (((rd_T30 t239 (t234.length : Int)).f1) ≥ x6_6))) else (none))) else (some false))) else (none)) else (none)) else (some false))) = some r := by rw [if_neg (show ¬ (false = true) by decide)] at H; exact H
                    clear H
                    have H := H1
                    clear H1
                    by_cases c26 : (t234.length : Int) > (t239.length : Int)
                    · rw [if_pos c26] at H
                      have c26b0 : decide ((t239.length : Int) < (t234.length : Int)) = true := decide_eq_true c26
                      have c26b1 : decide (t239.length < t234.length) = true := decide_eq_true (Int.ofNat_lt.mp c26)
                      clear c26
                      obtain rfl := Option.some.inj H
                      obtain ⟨Ao27, co27, eo27⟩ := Kd.R_slice HO_7.out
                      subst eo27
                      obtain ⟨Ao28, co28, eo28⟩ := Kd.R_slice HO_10.out
                      subst eo28
                      go_wp2
                      go_ret
                      exact ⟨by first | rfl | (simp [errW_none, errW_some] <;> rfl) | (simp [*, errW_none, errW_some] <;> rfl), by repeat (first | (with_reducible first | exact HB.out | apply below_alloc | apply pw_below_drewN | apply below_drew1) | exact HB.out)⟩
                    · rw [if_neg c26] at H
                      have c26b0 : decide ((t239.length : Int) < (t234.length : Int)) = false := decide_eq_false c26
                      have c26b1 : decide (t239.length < t234.length) = false := decide_eq_false (fun h => c26 (Int.ofNat_lt.mpr h))
                      clear c26
                      by_cases c29 : t233 = true
                      · subst c29
                        have H1 : (if 0 ≤ (t234.length : Int) then (if (t234.length : Int) ≤ (t239.length : Int) then ((eddywheelref05_Same.f kj18 t234 (t239.take ((t234.length : Int) : Int).toNat)).bind fun t248 => (if t248 = true then (if (t234.length : Int) = (t239.length : Int) then (some true) else (if (t234.length : Int) < (t239.length : Int) then (some (decide (((rd_T30 t239 (t234.length : Int)).f1) ≥ x6_6))) else (none))) else (some false))) else (none)) else (none)) = some r := by rw [if_pos rfl] at H; exact H
                        clear H
                        have H := H1
                        clear H1
                        by_cases c30 : 0 ≤ (t234.length : Int)
                        · rw [if_pos c30] at H
                          have c30b0 := eq_true c30
                          have c30b1 : decide (0 ≤ (t234.length : Int)) = true := decide_eq_true c30
                          clear c30
                          by_cases c31 : (t234.length : Int) ≤ (t239.length : Int)
                          · rw [if_pos c31] at H
                            have c31b0 := eq_true c31
                            have c31b1 : decide ((t234.length : Int) ≤ (t239.length : Int)) = true := decide_eq_true c31
                            clear c31
                            obtain ⟨y244, hy244⟩ : ∃ y_ : List (S30), y_ = (t239.take ((t234.length : Int) : Int).toNat) := ⟨_, rfl⟩
                            replace H : ((eddywheelref05_Same.f kj18 t234 y244).bind fun t248 => (if t248 = true then (if (t234.length : Int) = (t239.length : Int) then (some true) else (if (t234.length : Int) < (t239.length : Int) then (some (decide (((rd_T30 t239 (t234.length : Int)).f1) ≥ x6_6))) else (none))) else (some false))) = some r := by first | (rw [hy244]; with_reducible exact H) | (have H2_ := (Option.bind_some _ _).symm.trans H; rw [hy244]; with_reducible exact H2_) | (have H2_ := (Option.bind_some _ _).symm.trans H; with_reducible exact H2_) | with_reducible exact H | (rw [hy244]; exact H) | exact H
                            have Ny244 := Aside0.mk hy244
                            clear hy244
                            replace H := Option.bind_eq_some_iff.mp H
                            obtain ⟨t248, A320, H⟩ := H
                            replace H : (if t248 = true then (if (t234.length : Int) = (t239.length : Int) then (some true) else (if (t234.length : Int) < (t239.length : Int) then (some (decide (((rd_T30 t239 (t234.length : Int)).f1) ≥ x6_6))) else (none))) else (some false)) = some r := H
                            have A32 := Aside0.mk A320
                            clear A320
                            by_cases c33 : t248 = true
                            · subst c33
                              have H1 : (if (t234.length : Int) = (t239.length : Int) then (some true) else (if (t234.length : Int) < (t239.length : Int) then (some (decide (((rd_T30 t239 (t234.length : Int)).f1) ≥ x6_6))) else (none))) = some r := by rw [if_pos rfl] at H; exact H
                              clear H
                              have H := H1
                              clear H1
                              by_cases c34 : (t234.length : Int) = (t239.length : Int)
                              · rw [if_pos c34] at H
                                have c34b0 : ((t234.length : Int) == (t239.length : Int)) = true := beq_iff_eq.mpr c34
                                have c34b1 : ((t234.length : Int) != (t239.length : Int)) = false := bne_eq_false_iff_eq.mpr c34
                                have c34b2 : (t234.length == t239.length) = true := by first | simpa using c34 | (simp at c34 ⊢; omega)
                                clear c34
                                obtain rfl := Option.some.inj H
                                obtain ⟨Ao35, co35, eo35⟩ := Kd.R_slice HO_7.out
                                subst eo35
                                obtain ⟨Ao36, co36, eo36⟩ := Kd.R_slice HO_10.out
                                subst eo36
                                have q37 : ((t234.length : Int) : Int) ≤ ((t239.length : Int) : Int) := of_decide_eq_true (by first | (with_reducible assumption) | assumption)
                                obtain ⟨i037, hi037, _, hsz37, _⟩ := info_parts info30
                                have hroom37 : t239.length ≤ co36 := (Kd.R_reads' HO_10.out).2.1
                                have hC37 : Kd.C k30 _ Ao36 t239.length t239 := (Kd.R_reads' HO_10.out).2.2
                                have hcut37 := cut_to (P := Tryd.prog) 23 30 .i64 Tryd.underlying23 hi037 Ao36 t239.length co36 (t234.length : Int) (of_decide_eq_true (by first | (with_reducible assumption) | assumption)) q37 hroom37
                                have hr37 := Kd.C_take (m := ((t234.length : Int) : Int).toNat) hC37 (by omega)
                                have hy37 : y244.length = ((t234.length : Int) : Int).toNat := (by rw [Ny244.out, List.length_take]; omega)
                                rw [← Ny244.out] at hr37
                                rw [← hy37] at hcut37
                                have HR247 := Aside0.mk hr37
                                have HC247 := Aside0.mk (show y244.length ≤ co36 from by omega)
                                clear hr37 hC37 hroom37 hi037 hsz37
                                have KY37 := Aside0.mk hy37
                                clear hy37
                                have KL37 := Aside0.mk (show ((t234.length : Int) : Int).toNat ≤ t239.length from by omega)
                                replace q37 := eq_true q37
                                go_wp2_with (first | (go_at_call 12; (with_reducible refine (eddywheelref05_Same.calls kj18 _ _ t234 _ _ y244 true _ ?side1 ?side2 ?side3 ?side4 A32.out).mono ?_); (case side1 => repeat (first | exact (Kd.R_reads' HO_7.out).2.2 | (with_reducible refine Kd.C_alloc ?_ _) | (with_reducible refine Kd.C_drewN ?_ _) | (with_reducible refine Kd.C_drew ?_))); (case side2 => exact (Kd.R_reads' HO_7.out).2.1); (case side3 => repeat (first | exact (by repeat (first | (with_reducible exact HR247.out) | (with_reducible refine Kd.C_alloc ?_ _) | (with_reducible refine Kd.C_drewN ?_ _) | (with_reducible refine Kd.C_drew ?_) | exact HR247.out)) | (with_reducible refine Kd.C_alloc ?_ _) | (with_reducible refine Kd.C_drewN ?_ _) | (with_reducible refine Kd.C_drew ?_))); (case side4 => exact HC247.out); rintro e w' ⟨rfl, ⟨nd, rfl⟩⟩))
                                go_ret
                                exact ⟨by first | rfl | (simp [errW_none, errW_some] <;> rfl) | (simp [*, errW_none, errW_some] <;> rfl), by repeat (first | (with_reducible first | exact HB.out | apply below_alloc | apply pw_below_drewN | apply below_drew1) | exact HB.out)⟩
                              · rw [if_neg c34] at H
                                have c34b0 : ((t234.length : Int) == (t239.length : Int)) = false := beq_eq_false_iff_ne.mpr c34
                                have c34b1 : ((t234.length : Int) != (t239.length : Int)) = true := bne_iff_ne.mpr c34
                                have c34b2 : (t234.length == t239.length) = false := by first | simpa using c34 | (simp at c34 ⊢; omega)
                                by_cases c38 : (t234.length : Int) < (t239.length : Int)
                                · rw [if_pos c38] at H
                                  have c38b0 : decide ((t234.length : Int) < (t239.length : Int)) = true := decide_eq_true c38
                                  have c38b1 : decide (t234.length < t239.length) = true := decide_eq_true (Int.ofNat_lt.mp c38)
                                  clear c38
                                  obtain rfl := Option.some.inj H
                                  obtain ⟨Ao39, co39, eo39⟩ := Kd.R_slice HO_7.out
                                  subst eo39
                                  obtain ⟨Ao40, co40, eo40⟩ := Kd.R_slice HO_10.out
                                  subst eo40
                                  have q41 : ((t234.length : Int) : Int) ≤ ((t239.length : Int) : Int) := of_decide_eq_true (by first | (with_reducible assumption) | assumption)
                                  obtain ⟨i041, hi041, _, hsz41, _⟩ := info_parts info30
                                  have hroom41 : t239.length ≤ co40 := (Kd.R_reads' HO_10.out).2.1
                                  have hC41 : Kd.C k30 _ Ao40 t239.length t239 := (Kd.R_reads' HO_10.out).2.2
                                  have hcut41 := cut_to (P := Tryd.prog) 23 30 .i64 Tryd.underlying23 hi041 Ao40 t239.length co40 (t234.length : Int) (of_decide_eq_true (by first | (with_reducible assumption) | assumption)) q41 hroom41
                                  have hr41 := Kd.C_take (m := ((t234.length : Int) : Int).toNat) hC41 (by omega)
                                  have hy41 : y244.length = ((t234.length : Int) : Int).toNat := (by rw [Ny244.out, List.length_take]; omega)
                                  rw [← Ny244.out] at hr41
                                  rw [← hy41] at hcut41
                                  have HR247 := Aside0.mk hr41
                                  have HC247 := Aside0.mk (show y244.length ≤ co40 from by omega)
                                  clear hr41 hC41 hroom41 hi041 hsz41
                                  have KY41 := Aside0.mk hy41
                                  clear hy41
                                  have KL41 := Aside0.mk (show ((t234.length : Int) : Int).toNat ≤ t239.length from by omega)
                                  replace q41 := eq_true q41
                                  go_wp2_with (first | (go_at_call 12; (with_reducible refine (eddywheelref05_Same.calls kj18 _ _ t234 _ _ y244 true _ ?side1 ?side2 ?side3 ?side4 A32.out).mono ?_); (case side1 => repeat (first | exact (Kd.R_reads' HO_7.out).2.2 | (with_reducible refine Kd.C_alloc ?_ _) | (with_reducible refine Kd.C_drewN ?_ _) | (with_reducible refine Kd.C_drew ?_))); (case side2 => exact (Kd.R_reads' HO_7.out).2.1); (case side3 => repeat (first | exact (by repeat (first | (with_reducible exact HR247.out) | (with_reducible refine Kd.C_alloc ?_ _) | (with_reducible refine Kd.C_drewN ?_ _) | (with_reducible refine Kd.C_drew ?_) | exact HR247.out)) | (with_reducible refine Kd.C_alloc ?_ _) | (with_reducible refine Kd.C_drewN ?_ _) | (with_reducible refine Kd.C_drew ?_))); (case side4 => exact HC247.out); rintro e w' ⟨rfl, ⟨nd, rfl⟩⟩; have p249 : 0 ≤ ((t234.length : Int) : Int) := of_decide_eq_true (by first | (with_reducible assumption) | assumption); have q249 : (t234.length : Int) < (t239.length : Int) := of_decide_eq_true (by first | (with_reducible assumption) | assumption); obtain ⟨ad249, e249, hx249_0, hx249_1, hx249_2, hx249_3⟩ := at_T30 (Kd.R_reads' HO_10.out).2.2 (t234.length : Int) p249 q249; cases e249; (try simp only [Go.IntWalk.toNatUp] at hx249_0); (try simp only [Go.IntWalk.toNatUp] at hx249_1); (try simp only [Go.IntWalk.toNatUp] at hx249_2); (try simp only [Go.IntWalk.toNatUp] at hx249_3); replace p249 := eq_true p249; replace q249 := eq_true q249))
                                  go_ret
                                  exact ⟨by first | rfl | (simp [errW_none, errW_some] <;> rfl) | (simp [*, errW_none, errW_some] <;> rfl), by repeat (first | (with_reducible first | exact HB.out | apply below_alloc | apply pw_below_drewN | apply below_drew1) | exact HB.out)⟩
                                · rw [if_neg c38] at H
                                  exact absurd H (by simp)
                            · replace c33 := Bool.eq_false_iff.mpr c33
                              subst c33
                              have H1 : (some false) = some r := by rw [if_neg (show ¬ (false = true) by decide)] at H; exact H
                              clear H
                              have H := H1
                              clear H1
                              obtain rfl := Option.some.inj H
                              obtain ⟨Ao42, co42, eo42⟩ := Kd.R_slice HO_7.out
                              subst eo42
                              obtain ⟨Ao43, co43, eo43⟩ := Kd.R_slice HO_10.out
                              subst eo43
                              have q44 : ((t234.length : Int) : Int) ≤ ((t239.length : Int) : Int) := of_decide_eq_true (by first | (with_reducible assumption) | assumption)
                              obtain ⟨i044, hi044, _, hsz44, _⟩ := info_parts info30
                              have hroom44 : t239.length ≤ co43 := (Kd.R_reads' HO_10.out).2.1
                              have hC44 : Kd.C k30 _ Ao43 t239.length t239 := (Kd.R_reads' HO_10.out).2.2
                              have hcut44 := cut_to (P := Tryd.prog) 23 30 .i64 Tryd.underlying23 hi044 Ao43 t239.length co43 (t234.length : Int) (of_decide_eq_true (by first | (with_reducible assumption) | assumption)) q44 hroom44
                              have hr44 := Kd.C_take (m := ((t234.length : Int) : Int).toNat) hC44 (by omega)
                              have hy44 : y244.length = ((t234.length : Int) : Int).toNat := (by rw [Ny244.out, List.length_take]; omega)
                              rw [← Ny244.out] at hr44
                              rw [← hy44] at hcut44
                              have HR247 := Aside0.mk hr44
                              have HC247 := Aside0.mk (show y244.length ≤ co43 from by omega)
                              clear hr44 hC44 hroom44 hi044 hsz44
                              have KY44 := Aside0.mk hy44
                              clear hy44
                              have KL44 := Aside0.mk (show ((t234.length : Int) : Int).toNat ≤ t239.length from by omega)
                              replace q44 := eq_true q44
                              go_wp2_with (first | (go_at_call 12; (with_reducible refine (eddywheelref05_Same.calls kj18 _ _ t234 _ _ y244 false _ ?side1 ?side2 ?side3 ?side4 A32.out).mono ?_); (case side1 => repeat (first | exact (Kd.R_reads' HO_7.out).2.2 | (with_reducible refine Kd.C_alloc ?_ _) | (with_reducible refine Kd.C_drewN ?_ _) | (with_reducible refine Kd.C_drew ?_))); (case side2 => exact (Kd.R_reads' HO_7.out).2.1); (case side3 => repeat (first | exact (by repeat (first | (with_reducible exact HR247.out) | (with_reducible refine Kd.C_alloc ?_ _) | (with_reducible refine Kd.C_drewN ?_ _) | (with_reducible refine Kd.C_drew ?_) | exact HR247.out)) | (with_reducible refine Kd.C_alloc ?_ _) | (with_reducible refine Kd.C_drewN ?_ _) | (with_reducible refine Kd.C_drew ?_))); (case side4 => exact HC247.out); rintro e w' ⟨rfl, ⟨nd, rfl⟩⟩))
                              go_ret
                              exact ⟨by first | rfl | (simp [errW_none, errW_some] <;> rfl) | (simp [*, errW_none, errW_some] <;> rfl), by repeat (first | (with_reducible first | exact HB.out | apply below_alloc | apply pw_below_drewN | apply below_drew1) | exact HB.out)⟩
                          · rw [if_neg c31] at H
                            exact absurd H (by simp)
                        · rw [if_neg c30] at H
                          exact absurd H (by simp)
                      · replace c29 := Bool.eq_false_iff.mpr c29
                        subst c29
                        have H1 : (some false) = some r := by rw [if_neg (show ¬ (false = true) by decide)] at H; exact H
                        clear H
                        have H := H1
                        clear H1
                        obtain rfl := Option.some.inj H
                        obtain ⟨Ao45, co45, eo45⟩ := Kd.R_slice HO_7.out
                        subst eo45
                        obtain ⟨Ao46, co46, eo46⟩ := Kd.R_slice HO_10.out
                        subst eo46
                        go_wp2
                        go_ret
                        exact ⟨by first | rfl | (simp [errW_none, errW_some] <;> rfl) | (simp [*, errW_none, errW_some] <;> rfl), by repeat (first | (with_reducible first | exact HB.out | apply below_alloc | apply pw_below_drewN | apply below_drew1) | exact HB.out)⟩
            · rw [if_neg c16] at H
              exact absurd H (by simp)
          · rw [if_neg c15] at H
            exact absurd H (by simp)

/-- THE ONE PURE STATEMENT of eddywheellaw05_LexCuts: yours. -/
def eddywheellaw05_LexCuts.Pure : Prop := ∀ (a0 : ByteArray) (a1 : Int), a0.size ≤ 140737488351232 → (Lit.int .u16 a1).wf = true → ∃ k, eddywheellaw05_LexCuts.f k a0 a1 = some true
theorem eddywheellaw05_LexCuts.walk (P : eddywheellaw05_LexCuts.Pure) (a0 : ByteArray) (a1 : Int) (w : World) (w0 : a0.size ≤ 140737488351232) (w1 : (Lit.int .u16 a1).wf = true) (hV : Aside0 (Go.Proofs.YtkgfnkilanpaoaaDoor.LexC.Vars w)) :
    Calls Tryd.prog 8 #[.string a0, .int .u16 a1] w fun e w' => e = .returned (.bool true) ∧ Below w.heap.size w w' := by
  obtain ⟨k, h⟩ := P a0 a1 w0 w1
  refine (eddywheellaw05_LexCuts.calls k a0 a1 true w h).mono ?_
  rintro e w' ⟨rfl, hd⟩
  exact ⟨rfl, hd⟩

end Go.Proofs.YtkgfnkilanpaoaaDoor.PLexs

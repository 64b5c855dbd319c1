-- Written by xprint.py (a program of the prover's) over the kit's printer.
import Derived.Test.YthfbkhjcnfjmmaaDoorPReadsx0
import Derived.Test.YthfbkhjcnfjmmaaDoorPReadsx1
namespace Go.Proofs.YthfbkhjcnfjmmaaDoor.PReads
open Go.RowKit Go.Proofs.YthfbkhjcnfjmmaaDoorW.PrintWords Go.Proofs.YthfbkhjcnfjmmaaDoorW.PrintLast Go.Proofs.YthfbkhjcnfjmmaaDoorW.PrintMore
attribute [local go_sem] max2_int min2_int max_two min_two max_three min_three max_four min_four   -- for this text's walks alone
set_option linter.unusedVariables false
set_option linter.unusedSimpArgs false

/-! ### eddywheellaw06_ReadJoins: function 4 -/
mutual
def eddywheellaw06_ReadJoins.j0 : Nat → ByteArray → ByteArray → Bool → Bool → Option (Bool)
  | 0, _, _, _, _ => none
  | k + 1, x0, x1, x5, x34 => if x34 = true then (some x5) else ((read_Read.f x0).bind fun bt104 => ((read_Read.f x1).bind fun bt112 => (if bt104.2.2.2 = 0 then (if x0.size + 1 ≤ 9223372036854775807 then (if (x0 ++ (⟨#[10]⟩ : ByteArray)).size + x1.size ≤ 9223372036854775807 then ((read_Read.f ((x0 ++ (⟨#[10]⟩ : ByteArray)) ++ x1)).bind fun bt120 => (if bt112.2.2.2 = 0 then (eddywheellaw06_ReadJoins.l0 k x0 x5 bt104.1 bt104.2.1 bt112.2.1 bt120.1 bt120.2.1 bt120.2.2.2 (bt104.1.length : Int) bt112.1 (bt112.1.length : Int) 0) else (if x5 = true then (if bt120.2.2.2 = bt112.2.2.2 then (some (bt120.2.2.1 == (wrap64 ((wrap64 (bt112.2.2.1 + (x0.size : Int))) + 1)))) else (some false)) else (some false)))) else (none)) else (none)) else (some x5))))
def eddywheellaw06_ReadJoins.l0 : Nat → ByteArray → Bool → List (S32) → List Int → List Int → List (S32) → List Int → Int → Int → List (S32) → Int → Int → Option (Bool)
  | 0, _, _, _, _, _, _, _, _, _, _, _, _ => none
  | k + 1, x0, x5, x6, x7, x11, x14, x15, x17, x18, x82, x83, x84 => if x84 < x83 then (if 0 ≤ x84 then (if x84 < (x82.length : Int) then (eddywheellaw06_ReadJoins.l1 k x0 x5 x6 x7 x11 x14 x15 x17 x18 ([] : List Int) x82 x83 x84 ((rd_T32 x82 x84).f4) (((rd_T32 x82 x84).f4).length : Int) 0 ((rd_T32 x82 x84).f0) (wrap64 (((rd_T32 x82 x84).f1) + (wrap64 ((x0.size : Int) + 1)))) ((rd_T32 x82 x84).f2) ((rd_T32 x82 x84).f3) ((rd_T32 x82 x84).f4)) else (none)) else (none)) else (eddywheellaw06_ReadJoins.l2 k x5 x6 x7 x14 x15 x17 x18 x11 (x11.length : Int) 0)
def eddywheellaw06_ReadJoins.l1 : Nat → ByteArray → Bool → List (S32) → List Int → List Int → List (S32) → List Int → Int → Int → List Int → List (S32) → Int → Int → List Int → Int → Int → Int → Int → Int → ByteArray → List Int → Option (Bool)
  | 0, _, _, _, _, _, _, _, _, _, _, _, _, _, _, _, _, _, _, _, _, _ => none
  | k + 1, x0, x5, x6, x7, x11, x14, x15, x17, x18, x21, x82, x83, x84, x96, x97, x98, x130000, x130001, x130002, x130003, x130004 => if x98 < x97 then (if 0 ≤ x98 then (if x98 < (x96.length : Int) then (if x21.length < 17592186044416 then (eddywheellaw06_ReadJoins.l1 k x0 x5 x6 x7 x11 x14 x15 x17 x18 (x21 ++ [wrap64 ((rd x96 x98) + x18)]) x82 x83 x84 x96 x97 (wrap64 (x98 + 1)) x130000 x130001 x130002 x130003 x130004) else (none)) else (none)) else (none)) else (if x6.length < 2199023255552 then (eddywheellaw06_ReadJoins.l0 k x0 x5 (x6 ++ [(⟨x130000, x130001, x130002, x130003, x21⟩ : S32)]) x7 x11 x14 x15 x17 x18 x82 x83 (wrap64 (x84 + 1))) else (none))
def eddywheellaw06_ReadJoins.l2 : Nat → Bool → List (S32) → List Int → List (S32) → List Int → Int → Int → List Int → Int → Int → Option (Bool)
  | 0, _, _, _, _, _, _, _, _, _, _ => none
  | k + 1, x5, x6, x7, x14, x15, x17, x18, x116, x117, x118 => if x118 < x117 then (if 0 ≤ x118 then (if x118 < (x116.length : Int) then (if x7.length < 17592186044416 then (eddywheellaw06_ReadJoins.l2 k x5 x6 (x7 ++ [wrap64 ((rd x116 x118) + x18)]) x14 x15 x17 x18 x116 x117 (wrap64 (x118 + 1))) else (none)) else (none)) else (none)) else (if x5 = true then (if x17 = 0 then ((eddywheelref06_Same.f x14 x6).bind fun t141 => (if t141 = true then ((eddywheelref06_Ints.f k x15 x7).bind fun t142 => (some t142)) else (some false))) else (some false)) else (some false))
end
def eddywheellaw06_ReadJoins.f (k : Nat) (a0 : ByteArray) (a1 : ByteArray) : Option (Bool) := (eddywheellaw06_shown.f).bind fun t103 => (if (a0.size : Int) > 1000 then (eddywheellaw06_ReadJoins.j0 k a0 a1 t103 true) else (eddywheellaw06_ReadJoins.j0 k a0 a1 t103 (decide ((a1.size : Int) > 1000))))
theorem eddywheellaw06_ReadJoins.mono_l : ∀ k, (∀ y0 y1 y2 y3, LeO (eddywheellaw06_ReadJoins.j0 k y0 y1 y2 y3) (eddywheellaw06_ReadJoins.j0 (k + 1) y0 y1 y2 y3)) ∧ (∀ y0 y1 y2 y3 y4 y5 y6 y7 y8 y9 y10 y11, LeO (eddywheellaw06_ReadJoins.l0 k y0 y1 y2 y3 y4 y5 y6 y7 y8 y9 y10 y11) (eddywheellaw06_ReadJoins.l0 (k + 1) y0 y1 y2 y3 y4 y5 y6 y7 y8 y9 y10 y11)) ∧ (∀ y0 y1 y2 y3 y4 y5 y6 y7 y8 y9 y10 y11 y12 y13 y14 y15 y16 y17 y18 y19 y20, LeO (eddywheellaw06_ReadJoins.l1 k y0 y1 y2 y3 y4 y5 y6 y7 y8 y9 y10 y11 y12 y13 y14 y15 y16 y17 y18 y19 y20) (eddywheellaw06_ReadJoins.l1 (k + 1) y0 y1 y2 y3 y4 y5 y6 y7 y8 y9 y10 y11 y12 y13 y14 y15 y16 y17 y18 y19 y20)) ∧ (∀ y0 y1 y2 y3 y4 y5 y6 y7 y8 y9, LeO (eddywheellaw06_ReadJoins.l2 k y0 y1 y2 y3 y4 y5 y6 y7 y8 y9) (eddywheellaw06_ReadJoins.l2 (k + 1) y0 y1 y2 y3 y4 y5 y6 y7 y8 y9))
  | 0 => ⟨fun _ _ _ _ r h => by simp [eddywheellaw06_ReadJoins.j0] at h, fun _ _ _ _ _ _ _ _ _ _ _ _ r h => by simp [eddywheellaw06_ReadJoins.l0] at h, fun _ _ _ _ _ _ _ _ _ _ _ _ _ _ _ _ _ _ _ _ _ r h => by simp [eddywheellaw06_ReadJoins.l1] at h, fun _ _ _ _ _ _ _ _ _ _ r h => by simp [eddywheellaw06_ReadJoins.l2] at h⟩
  | k + 1 => by
    obtain ⟨ih0, ih1, ih2, ih3⟩ := eddywheellaw06_ReadJoins.mono_l k
    refine ⟨?_, ?_, ?_, ?_⟩
    · intro y0 y1 y2 y3
      unfold eddywheellaw06_ReadJoins.j0
      repeat' first
      | (with_reducible exact ih0 _ _ _ _)
      | (with_reducible exact ih1 _ _ _ _ _ _ _ _ _ _ _ _)
      | (with_reducible exact ih2 _ _ _ _ _ _ _ _ _ _ _ _ _ _ _ _ _ _ _ _ _)
      | (with_reducible exact ih3 _ _ _ _ _ _ _ _ _ _)
      | (with_reducible exact eddywheelref06_Ints.mono _ _ _)
      | (with_reducible exact LeO.refl _)
      | (with_reducible exact LeO.none _)
      | (with_reducible refine LeO.ite ?_ ?_)
      | (with_reducible refine LeO.bind ?_ (fun _ => ?_))
      | exact ih0 _ _ _ _
      | exact ih1 _ _ _ _ _ _ _ _ _ _ _ _
      | exact ih2 _ _ _ _ _ _ _ _ _ _ _ _ _ _ _ _ _ _ _ _ _
      | exact ih3 _ _ _ _ _ _ _ _ _ _
      | exact eddywheelref06_Ints.mono _ _ _
      | exact LeO.none _
      | refine LeO.ite ?_ ?_
      | refine LeO.bind ?_ (fun _ => ?_)
    · intro y0 y1 y2 y3 y4 y5 y6 y7 y8 y9 y10 y11
      unfold eddywheellaw06_ReadJoins.l0
      repeat' first
      | (with_reducible exact ih0 _ _ _ _)
      | (with_reducible exact ih1 _ _ _ _ _ _ _ _ _ _ _ _)
      | (with_reducible exact ih2 _ _ _ _ _ _ _ _ _ _ _ _ _ _ _ _ _ _ _ _ _)
      | (with_reducible exact ih3 _ _ _ _ _ _ _ _ _ _)
      | (with_reducible exact eddywheelref06_Ints.mono _ _ _)
      | (with_reducible exact LeO.refl _)
      | (with_reducible exact LeO.none _)
      | (with_reducible refine LeO.ite ?_ ?_)
      | (with_reducible refine LeO.bind ?_ (fun _ => ?_))
      | exact ih0 _ _ _ _
      | exact ih1 _ _ _ _ _ _ _ _ _ _ _ _
      | exact ih2 _ _ _ _ _ _ _ _ _ _ _ _ _ _ _ _ _ _ _ _ _
      | exact ih3 _ _ _ _ _ _ _ _ _ _
      | exact eddywheelref06_Ints.mono _ _ _
      | exact LeO.none _
      | refine LeO.ite ?_ ?_
      | refine LeO.bind ?_ (fun _ => ?_)
    · intro y0 y1 y2 y3 y4 y5 y6 y7 y8 y9 y10 y11 y12 y13 y14 y15 y16 y17 y18 y19 y20
      unfold eddywheellaw06_ReadJoins.l1
      repeat' first
      | (with_reducible exact ih0 _ _ _ _)
      | (with_reducible exact ih1 _ _ _ _ _ _ _ _ _ _ _ _)
      | (with_reducible exact ih2 _ _ _ _ _ _ _ _ _ _ _ _ _ _ _ _ _ _ _ _ _)
      | (with_reducible exact ih3 _ _ _ _ _ _ _ _ _ _)
      | (with_reducible exact eddywheelref06_Ints.mono _ _ _)
      | (with_reducible exact LeO.refl _)
      | (with_reducible exact LeO.none _)
      | (with_reducible refine LeO.ite ?_ ?_)
      | (with_reducible refine LeO.bind ?_ (fun _ => ?_))
      | exact ih0 _ _ _ _
      | exact ih1 _ _ _ _ _ _ _ _ _ _ _ _
      | exact ih2 _ _ _ _ _ _ _ _ _ _ _ _ _ _ _ _ _ _ _ _ _
      | exact ih3 _ _ _ _ _ _ _ _ _ _
      | exact eddywheelref06_Ints.mono _ _ _
      | exact LeO.none _
      | refine LeO.ite ?_ ?_
      | refine LeO.bind ?_ (fun _ => ?_)
    · intro y0 y1 y2 y3 y4 y5 y6 y7 y8 y9
      unfold eddywheellaw06_ReadJoins.l2
      repeat' first
      | (with_reducible exact ih0 _ _ _ _)
      | (with_reducible exact ih1 _ _ _ _ _ _ _ _ _ _ _ _)
      | (with_reducible exact ih2 _ _ _ _ _ _ _ _ _ _ _ _ _ _ _ _ _ _ _ _ _)
      | (with_reducible exact ih3 _ _ _ _ _ _ _ _ _ _)
      | (with_reducible exact eddywheelref06_Ints.mono _ _ _)
      | (with_reducible exact LeO.refl _)
      | (with_reducible exact LeO.none _)
      | (with_reducible refine LeO.ite ?_ ?_)
      | (with_reducible refine LeO.bind ?_ (fun _ => ?_))
      | exact ih0 _ _ _ _
      | exact ih1 _ _ _ _ _ _ _ _ _ _ _ _
      | exact ih2 _ _ _ _ _ _ _ _ _ _ _ _ _ _ _ _ _ _ _ _ _
      | exact ih3 _ _ _ _ _ _ _ _ _ _
      | exact eddywheelref06_Ints.mono _ _ _
      | exact LeO.none _
      | refine LeO.ite ?_ ?_
      | refine LeO.bind ?_ (fun _ => ?_)
theorem eddywheellaw06_ReadJoins.mono : ∀ a0 a1 k, LeO (eddywheellaw06_ReadJoins.f k a0 a1) (eddywheellaw06_ReadJoins.f (k + 1) a0 a1) := by
  intro a0 a1 k
  obtain ⟨ih0, ih1, ih2, ih3⟩ := eddywheellaw06_ReadJoins.mono_l k
  unfold eddywheellaw06_ReadJoins.f
  repeat' first
      | (with_reducible exact ih0 _ _ _ _)
      | (with_reducible exact ih1 _ _ _ _ _ _ _ _ _ _ _ _)
      | (with_reducible exact ih2 _ _ _ _ _ _ _ _ _ _ _ _ _ _ _ _ _ _ _ _ _)
      | (with_reducible exact ih3 _ _ _ _ _ _ _ _ _ _)
      | (with_reducible exact eddywheelref06_Ints.mono _ _ _)
      | (with_reducible exact LeO.refl _)
      | (with_reducible exact LeO.none _)
      | (with_reducible refine LeO.ite ?_ ?_)
      | (with_reducible refine LeO.bind ?_ (fun _ => ?_))
      | exact ih0 _ _ _ _
      | exact ih1 _ _ _ _ _ _ _ _ _ _ _ _
      | exact ih2 _ _ _ _ _ _ _ _ _ _ _ _ _ _ _ _ _ _ _ _ _
      | exact ih3 _ _ _ _ _ _ _ _ _ _
      | exact eddywheelref06_Ints.mono _ _ _
      | exact LeO.none _
      | refine LeO.ite ?_ ?_
      | refine LeO.bind ?_ (fun _ => ?_)
set_option maxHeartbeats 8000000 in
set_option maxRecDepth 100000 in
theorem eddywheellaw06_ReadJoins.calls (k : Nat) (a0 : ByteArray) (a1 : ByteArray) (r : Bool) (w : World) (h : eddywheellaw06_ReadJoins.f k a0 a1 = some r) (hV : Aside0 (Go.Proofs.YthfbkhjcnfjmmaaDoor.LexC.Vars w) := by first | exact hV | exact ⟨Go.Proofs.YthfbkhjcnfjmmaaDoor.LexC.Vars.below hV.out (by repeat (first | (with_reducible first | exact HB.out | apply below_alloc | apply pw_below_drewN | apply below_drew1 | refine below_set ?_ (Aside0.out (by assumption))) | exact HB.out)) (Nat.le_refl _)⟩) :
    Calls Tryd.prog 4 #[.string a0, .string a1] w fun e w' => e = .returned (.bool r) ∧ Below w.heap.size w w' := by
  have hu32 := Tryd.underlying32
  have HB := Aside0.mk (Below.refl w.heap.size w)
  have H : ((eddywheellaw06_shown.f).bind fun t103 => (if (a0.size : Int) > 1000 then (eddywheellaw06_ReadJoins.j0 k a0 a1 t103 true) else (eddywheellaw06_ReadJoins.j0 k a0 a1 t103 (decide ((a1.size : Int) > 1000))))) = some r := h
  clear h
  replace H := Option.bind_eq_some_iff.mp H
  obtain ⟨t103, A30, H⟩ := H
  replace H : (if (a0.size : Int) > 1000 then (eddywheellaw06_ReadJoins.j0 k a0 a1 t103 true) else (eddywheellaw06_ReadJoins.j0 k a0 a1 t103 (decide ((a1.size : Int) > 1000)))) = some r := H
  have A3 := Aside0.mk A30
  clear A30
  have HC4 := Aside0.mk H
  clear H
  go_enter Tryd.func4, Tryd.ntmps4
  go_upto_region 2 with (first | ((with_reducible refine gate_callee (f := 10) rfl ?_); refine goesL_ (some 26) rfl rfl Tryd.func10 (by kernel_rfl) rfl #[] rfl (by (try simp only [List.map_toArray, List.map_cons, List.map_nil]); first | done | rfl | (simp only [List.length_drop, List.length_take]; rfl)) ?_; (with_reducible refine (eddywheellaw06_shown.calls  t103 _ A3.out).mono ?_); rintro e w5 ⟨rfl, hb⟩; refine ⟨_, rfl, ?_⟩; have n0_ := Aside0.mk (below_step (by repeat (first | (with_reducible first | exact HB.out | apply below_alloc | apply pw_below_drewN | apply below_drew1) | exact HB.out)) hb); clear HB; have HB := n0_; clear n0_; (try clear hb); (try clear hb2); (try clear hk); (try clear hi)))
  (try simp only [Act.put, List.setIfInBounds_toArray, List.set_cons_zero, List.set_cons_succ])
  go_cut [34] (fun v34 wc => ∃ (kq : Nat) (x34_3 : Bool), v34 = .bool x34_3 ∧ Aside0 (eddywheellaw06_ReadJoins.j0 kq a0 a1 t103 x34_3 = some r) ∧ Aside0 (kq ≤ k) ∧ Aside0 (Below w.heap.size w wc))
  case first =>
    have H := HC4.out
    clear HC4
    by_cases c6 : (a0.size : Int) > 1000
    · rw [if_pos c6] at H
      have c6b0 : decide (1000 < (a0.size : Int)) = true := decide_eq_true c6
      have c6b1 : decide (1000 < a0.size) = true := decide_eq_true (by omega)
      clear c6
      (first | rw [c6b0] | (simp only [i64_w, i32_w]; rw [c6b0]) | skip)
      have H' := Aside0.mk H
      clear H
      go_wp2
      go_meet
      case rel => exact ⟨_, (true), (by first | rfl | (simp; done) | (simp [*]; done)), H', ⟨by first | omega | exact Nat.le_refl _⟩, ⟨by repeat (first | (with_reducible first | exact HB.out | apply below_alloc | apply pw_below_drewN | apply below_drew1) | exact HB.out)⟩⟩
    · rw [if_neg c6] at H
      have c6b0 : decide (1000 < (a0.size : Int)) = false := decide_eq_false c6
      have c6b1 : decide (1000 < a0.size) = false := decide_eq_false (by omega)
      clear c6
      (first | rw [c6b0] | (simp only [i64_w, i32_w]; rw [c6b0]) | skip)
      have H' := Aside0.mk H
      clear H
      go_wp2
      go_meet
      case rel => exact ⟨_, (decide ((a1.size : Int) > 1000)), (by first | rfl | (simp; done) | (simp [*]; done)), H', ⟨by first | omega | exact Nat.le_refl _⟩, ⟨by repeat (first | (with_reducible first | exact HB.out | apply below_alloc | apply pw_below_drewN | apply below_drew1) | exact HB.out)⟩⟩
  case rest =>
    clear HC4
    try clear c1
    try clear p2
    try clear c4
    try clear c6
    try clear c6b0
    try clear c6b1
    obtain ⟨kq, x34_3, rfl, HA, HJ3, HB⟩ := hcut
    cases kq with
    | zero => exact absurd HA.out (by simp [eddywheellaw06_ReadJoins.j0])
    | succ kj3 =>
      have H := HA.out
      clear HA
      simp only [eddywheellaw06_ReadJoins.j0] at H
      by_cases c7 : x34_3 = true
      · subst c7
        have H1 : (some t103) = some r := by rw [if_pos rfl] at H; exact H
        clear H
        have H := H1
        clear H1
        obtain rfl := Option.some.inj H
        go_wp2
        go_ret
        exact ⟨by first | rfl | (simp [errW_none, errW_some] <;> rfl) | (simp [*, errW_none, errW_some] <;> rfl), by repeat (first | (with_reducible first | exact HB.out | apply below_alloc | apply pw_below_drewN | apply below_drew1) | exact HB.out)⟩
      · replace c7 := Bool.eq_false_iff.mpr c7
        subst c7
        have H1 : ((read_Read.f a0).bind fun bt104 => ((read_Read.f a1).bind fun bt112 => (if bt104.2.2.2 = 0 then (if a0.size + 1 ≤ 9223372036854775807 then (if (a0 ++ (⟨#[10]⟩ : ByteArray)).size + a1.size ≤ 9223372036854775807 then ((read_Read.f ((a0 ++ (⟨#[10]⟩ : ByteArray)) ++ a1)).bind fun bt120 => (if bt112.2.2.2 = 0 then (eddywheellaw06_ReadJoins.l0 kj3 a0 t103 bt104.1 bt104.2.1 bt112.2.1 bt120.1 bt120.2.1 bt120.2.2.2 (bt104.1.length : Int) bt112.1 (bt112.1.length : Int) 0) else (if t103 = true then (if bt120.2.2.2 = bt112.2.2.2 then (some (bt120.2.2.1 == (wrap64 ((wrap64 (bt112.2.2.1 + (a0.size : Int))) + 1)))) else (some false)) else (some false)))) else (none)) else (none)) else (some t103)))) = some r := by rw [if_neg (show ¬ (false = true) by decide)] at H; exact H
        clear H
        have H := H1
        clear H1
        replace H := Option.bind_eq_some_iff.mp H
        obtain ⟨⟨t104, t105, t106, t107⟩, A80, H⟩ := H
        replace H : ((read_Read.f a1).bind fun bt112 => (if t107 = 0 then (if a0.size + 1 ≤ 9223372036854775807 then (if (a0 ++ (⟨#[10]⟩ : ByteArray)).size + a1.size ≤ 9223372036854775807 then ((read_Read.f ((a0 ++ (⟨#[10]⟩ : ByteArray)) ++ a1)).bind fun bt120 => (if bt112.2.2.2 = 0 then (eddywheellaw06_ReadJoins.l0 kj3 a0 t103 t104 t105 bt112.2.1 bt120.1 bt120.2.1 bt120.2.2.2 (t104.length : Int) bt112.1 (bt112.1.length : Int) 0) else (if t103 = true then (if bt120.2.2.2 = bt112.2.2.2 then (some (bt120.2.2.1 == (wrap64 ((wrap64 (bt112.2.2.1 + (a0.size : Int))) + 1)))) else (some false)) else (some false)))) else (none)) else (none)) else (some t103))) = some r := H
        have A8 := Aside0.mk A80
        clear A80
        replace H := Option.bind_eq_some_iff.mp H
        obtain ⟨⟨t112, t113, t114, t115⟩, A90, H⟩ := H
        replace H : (if t107 = 0 then (if a0.size + 1 ≤ 9223372036854775807 then (if (a0 ++ (⟨#[10]⟩ : ByteArray)).size + a1.size ≤ 9223372036854775807 then ((read_Read.f ((a0 ++ (⟨#[10]⟩ : ByteArray)) ++ a1)).bind fun bt120 => (if t115 = 0 then (eddywheellaw06_ReadJoins.l0 kj3 a0 t103 t104 t105 t113 bt120.1 bt120.2.1 bt120.2.2.2 (t104.length : Int) t112 (t112.length : Int) 0) else (if t103 = true then (if bt120.2.2.2 = t115 then (some (bt120.2.2.1 == (wrap64 ((wrap64 (t114 + (a0.size : Int))) + 1)))) else (some false)) else (some false)))) else (none)) else (none)) else (some t103)) = some r := H
        have A9 := Aside0.mk A90
        clear A90
        by_cases c10 : t107 = 0
        · rw [if_pos c10] at H
          have c10b0 : (t107 == 0) = true := beq_iff_eq.mpr c10
          have c10b1 : (t107 != 0) = false := bne_eq_false_iff_eq.mpr c10
          clear c10
          by_cases c11 : a0.size + 1 ≤ 9223372036854775807
          · rw [if_pos c11] at H
            have c11b0 := eq_true c11
            have c11b1 : decide (a0.size + 1 ≤ 9223372036854775807) = true := decide_eq_true c11
            try have c11b2 : (9223372036854775807 < a0.size + 1) = False := eq_false (Nat.not_lt.2 c11)
            by_cases c12 : (a0 ++ (⟨#[10]⟩ : ByteArray)).size + a1.size ≤ 9223372036854775807
            · rw [if_pos c12] at H
              have c12b0 := eq_true c12
              have c12b1 : decide ((a0 ++ (⟨#[10]⟩ : ByteArray)).size + a1.size ≤ 9223372036854775807) = true := decide_eq_true c12
              try have c12b2 : (9223372036854775807 < (a0 ++ (⟨#[10]⟩ : ByteArray)).size + a1.size) = False := eq_false (Nat.not_lt.2 c12)
              replace H := Option.bind_eq_some_iff.mp H
              obtain ⟨⟨t120, t121, t122, t123⟩, A130, H⟩ := H
              replace H : (if t115 = 0 then (eddywheellaw06_ReadJoins.l0 kj3 a0 t103 t104 t105 t113 t120 t121 t123 (t104.length : Int) t112 (t112.length : Int) 0) else (if t103 = true then (if t123 = t115 then (some (t122 == (wrap64 ((wrap64 (t114 + (a0.size : Int))) + 1)))) else (some false)) else (some false))) = some r := H
              have A13 := Aside0.mk A130
              clear A130
              by_cases c14 : t115 = 0
              · rw [if_pos c14] at H
                have c14b0 : (t115 == 0) = true := beq_iff_eq.mpr c14
                have c14b1 : (t115 != 0) = false := bne_eq_false_iff_eq.mpr c14
                clear c14
                have H' := Aside0.mk H
                clear H
                go_wp2_with (first | ((with_reducible refine gate_callee (f := 11) rfl ?_); refine goesL_ (some 38) rfl rfl Tryd.func11 (by kernel_rfl) rfl #[.string a0] rfl (by (try simp only [List.map_toArray, List.map_cons, List.map_nil]); first | done | rfl | (simp only [List.length_drop, List.length_take]; rfl)) ?_; (with_reducible refine (read_Read.calls a0 t104 t105 t106 t107 _ A8.out).mono ?_); rintro e w15 ⟨v108, v110, rfl, ho0, ho1, hb⟩; refine ⟨_, rfl, ?_⟩; have n0_ := Aside0.mk (Kd.S_lower ho0 (below_size (by repeat (first | (with_reducible first | exact HB.out | apply below_alloc | apply pw_below_drewN | apply below_drew1) | exact HB.out)))); have n1_ := Aside0.mk (Kd.R_lower ho1 (below_size (by repeat (first | (with_reducible first | exact HB.out | apply below_alloc | apply pw_below_drewN | apply below_drew1) | exact HB.out)))); have n2_ := Aside0.mk (below_step (by repeat (first | (with_reducible first | exact HB.out | apply below_alloc | apply pw_below_drewN | apply below_drew1) | exact HB.out)) hb); clear HB; have HO109 := n0_; have HO111 := n1_; have HB := n2_; clear n0_ n1_ n2_; (try clear hb); (try clear hb2); (try clear hk); (try clear hi); (try clear ho0); (try clear ho1)) | ((with_reducible refine gate_callee (f := 11) rfl ?_); refine goesL_ (some 45) rfl rfl Tryd.func11 (by kernel_rfl) rfl #[.string a1] rfl (by (try simp only [List.map_toArray, List.map_cons, List.map_nil]); first | done | rfl | (simp only [List.length_drop, List.length_take]; rfl)) ?_; (with_reducible refine (read_Read.calls a1 t112 t113 t114 t115 _ A9.out).mono ?_); rintro e w16 ⟨v116, v118, rfl, ho0, ho1, hb⟩; refine ⟨_, rfl, ?_⟩; have n0_ := Aside0.mk (Kd.S_mono (Kd.S_told (Kd.S_told (Kd.S_old (by (with_reducible repeat (first | apply Kd.S_alloc | apply Kd.S_drewN | apply Kd.S_drew)); exact HO109.out) hb) (Kd.S_base ho0)) (Kd.R_base ho1)) (fun _ h_ => h_.1)); have n1_ := Aside0.mk (Kd.R_elder' (by (with_reducible repeat (first | apply Kd.R_alloc | apply Kd.R_drewN | apply Kd.R_drew)); exact HO111.out) (Kd.R_base ho1) hb); have n2_ := Aside0.mk (Kd.S_lower (Kd.S_new' (Kd.S_new' ho0 (Kd.S_lt (by (with_reducible repeat (first | apply Kd.S_alloc | apply Kd.S_drewN | apply Kd.S_drew)); exact HO109.out))) (Kd.R_lt (by (with_reducible repeat (first | apply Kd.R_alloc | apply Kd.R_drewN | apply Kd.R_drew)); exact HO111.out))) (below_size (by repeat (first | (with_reducible first | exact HB.out | apply below_alloc | apply pw_below_drewN | apply below_drew1) | exact HB.out)))); have n3_ := Aside0.mk (Kd.R_lower (Kd.R_new' ho1 (Kd.R_lt (by (with_reducible repeat (first | apply Kd.R_alloc | apply Kd.R_drewN | apply Kd.R_drew)); exact HO111.out))) (below_size (by repeat (first | (with_reducible first | exact HB.out | apply below_alloc | apply pw_below_drewN | apply below_drew1) | exact HB.out)))); have n4_ := Aside0.mk (below_step (by repeat (first | (with_reducible first | exact HB.out | apply below_alloc | apply pw_below_drewN | apply below_drew1) | exact HB.out)) hb); clear HO109; clear HO111; clear HB; have HO109 := n0_; have HO111 := n1_; have HO117 := n2_; have HO119 := n3_; have HB := n4_; clear n0_ n1_ n2_ n3_ n4_; (try clear hb); (try clear hb2); (try clear hk); (try clear hi); (try clear ho0); (try clear ho1)) | ((with_reducible refine gate_callee (f := 11) rfl ?_); refine goesL_ (some 58) rfl rfl Tryd.func11 (by kernel_rfl) rfl #[.string ((a0 ++ (⟨#[10]⟩ : ByteArray)) ++ a1)] rfl (by (try simp only [List.map_toArray, List.map_cons, List.map_nil]); first | done | rfl | (simp only [List.length_drop, List.length_take]; rfl)) ?_; (with_reducible refine (read_Read.calls ((a0 ++ (⟨#[10]⟩ : ByteArray)) ++ a1) t120 t121 t122 t123 _ A13.out).mono ?_); rintro e w17 ⟨v124, v126, rfl, ho0, ho1, hb⟩; refine ⟨_, rfl, ?_⟩; have n0_ := Aside0.mk (Kd.S_mono (Kd.S_told (Kd.S_told (Kd.S_old (by (with_reducible repeat (first | apply Kd.S_alloc | apply Kd.S_drewN | apply Kd.S_drew)); exact HO109.out) hb) (Kd.S_base ho0)) (Kd.R_base ho1)) (fun _ h_ => h_.1)); have n1_ := Aside0.mk (Kd.R_elder' (by (with_reducible repeat (first | apply Kd.R_alloc | apply Kd.R_drewN | apply Kd.R_drew)); exact HO111.out) (Kd.R_base ho1) hb); have n2_ := Aside0.mk (Kd.S_mono (Kd.S_told (Kd.S_told (Kd.S_old (by (with_reducible repeat (first | apply Kd.S_alloc | apply Kd.S_drewN | apply Kd.S_drew)); exact HO117.out) hb) (Kd.S_base ho0)) (Kd.R_base ho1)) (fun _ h_ => h_.1)); have n3_ := Aside0.mk (Kd.R_elder' (by (with_reducible repeat (first | apply Kd.R_alloc | apply Kd.R_drewN | apply Kd.R_drew)); exact HO119.out) (Kd.R_base ho1) hb); have n4_ := Aside0.mk (Kd.S_lower (Kd.S_new' (Kd.S_new' (Kd.S_new' (Kd.S_new' ho0 (Kd.S_lt (by (with_reducible repeat (first | apply Kd.S_alloc | apply Kd.S_drewN | apply Kd.S_drew)); exact HO109.out))) (Kd.R_lt (by (with_reducible repeat (first | apply Kd.R_alloc | apply Kd.R_drewN | apply Kd.R_drew)); exact HO111.out))) (Kd.S_lt (by (with_reducible repeat (first | apply Kd.S_alloc | apply Kd.S_drewN | apply Kd.S_drew)); exact HO117.out))) (Kd.R_lt (by (with_reducible repeat (first | apply Kd.R_alloc | apply Kd.R_drewN | apply Kd.R_drew)); exact HO119.out))) (below_size (by repeat (first | (with_reducible first | exact HB.out | apply below_alloc | apply pw_below_drewN | apply below_drew1) | exact HB.out)))); have n5_ := Aside0.mk (Kd.R_lower (Kd.R_new' (Kd.R_new' ho1 (Kd.R_lt (by (with_reducible repeat (first | apply Kd.R_alloc | apply Kd.R_drewN | apply Kd.R_drew)); exact HO111.out))) (Kd.R_lt (by (with_reducible repeat (first | apply Kd.R_alloc | apply Kd.R_drewN | apply Kd.R_drew)); exact HO119.out))) (below_size (by repeat (first | (with_reducible first | exact HB.out | apply below_alloc | apply pw_below_drewN | apply below_drew1) | exact HB.out)))); have n6_ := Aside0.mk (below_step (by repeat (first | (with_reducible first | exact HB.out | apply below_alloc | apply pw_below_drewN | apply below_drew1) | exact HB.out)) hb); clear HO109; clear HO111; clear HO117; clear HO119; clear HB; have HO109 := n0_; have HO111 := n1_; have HO117 := n2_; have HO119 := n3_; have HO125 := n4_; have HO127 := n5_; have HB := n6_; clear n0_ n1_ n2_ n3_ n4_ n5_ n6_; (try clear hb); (try clear hb2); (try clear hk); (try clear hi); (try clear ho0); (try clear ho1); obtain ⟨Ao18, co18, eo18⟩ := Kd.S_slice HO109.out; subst eo18; obtain ⟨Ao19, co19, eo19⟩ := Kd.S_slice HO117.out; subst eo19))
                go_loopg [6, 84] kj3 (fun kq v6 v84 w' => ∃ (x6_2 : List (S32)) (x84_2 : Int), v84 = .int .i64 x84_2 ∧ Aside0 (eddywheellaw06_ReadJoins.l0 kq a0 t103 x6_2 t105 t113 t120 t121 t123 (t104.length : Int) t112 (t112.length : Int) x84_2 = some r) ∧ Aside0 (kq ≤ kj3) ∧ Aside0 (Kd.S k32 32 w' w.heap.size (fun k_ => some k_ ≠ (v110 : Value).ownBlock ∧ some k_ ≠ (v118 : Value).ownBlock ∧ some k_ ≠ (v124 : Value).ownBlock ∧ some k_ ≠ (v126 : Value).ownBlock ∧ some k_ ≠ ((.slice Ao19 t112.length co19) : Value).ownBlock) v6 x6_2) ∧ Aside0 (Kd.R (Kd.int .i64) 3 w' w.heap.size (fun k_ => some k_ ≠ (v118 : Value).ownBlock ∧ some k_ ≠ (v126 : Value).ownBlock) v110 t105) ∧ Aside0 (Kd.R (Kd.int .i64) 3 w' w.heap.size (fun k_ => some k_ ≠ (v110 : Value).ownBlock ∧ some k_ ≠ (v126 : Value).ownBlock) v118 t113) ∧ Aside0 (Kd.S k32 32 w' w.heap.size (fun k_ => some k_ ≠ (v6 : Value).ownBlock ∧ some k_ ≠ (v110 : Value).ownBlock ∧ some k_ ≠ (v118 : Value).ownBlock ∧ some k_ ≠ (v126 : Value).ownBlock ∧ some k_ ≠ ((.slice Ao19 t112.length co19) : Value).ownBlock) v124 t120) ∧ Aside0 (Kd.R (Kd.int .i64) 3 w' w.heap.size (fun k_ => some k_ ≠ (v110 : Value).ownBlock ∧ some k_ ≠ (v118 : Value).ownBlock) v126 t121) ∧ Aside0 (Kd.S k32 32 w' w.heap.size (fun k_ => some k_ ≠ (v6 : Value).ownBlock ∧ some k_ ≠ (v110 : Value).ownBlock ∧ some k_ ≠ (v118 : Value).ownBlock ∧ some k_ ≠ (v124 : Value).ownBlock ∧ some k_ ≠ (v126 : Value).ownBlock) (.slice Ao19 t112.length co19) t112) ∧ Aside0 (Below w.heap.size w w'))
                case atStart => exact ⟨(t104), (0), (by first | rfl | (simp; done) | (simp [*]; done)), H', ⟨Nat.le_refl _⟩, ⟨by (with_reducible repeat (first | apply Kd.S_alloc | apply Kd.S_drewN | apply Kd.S_drew)); exact Kd.S_mono HO109.out (fun _ hk => ⟨hk.1.1.1.1, ⟨hk.1.1.2, ⟨hk.1.2, ⟨hk.2, hk.1.1.1.2⟩⟩⟩⟩)⟩, ⟨by (with_reducible repeat (first | apply Kd.R_alloc | apply Kd.R_drewN | apply Kd.R_drew)); exact Kd.R_mono HO111.out (fun _ hk => ⟨hk.1.2, hk.2⟩)⟩, ⟨by (with_reducible repeat (first | apply Kd.R_alloc | apply Kd.R_drewN | apply Kd.R_drew)); exact Kd.R_mono HO119.out (fun _ hk => ⟨hk.1.2, hk.2⟩)⟩, ⟨by (with_reducible repeat (first | apply Kd.S_alloc | apply Kd.S_drewN | apply Kd.S_drew)); exact Kd.S_mono HO125.out (fun _ hk => ⟨hk.1.1.1.2, ⟨hk.1.1.2, ⟨hk.2, ⟨hk.1.1.1.1, hk.1.2⟩⟩⟩⟩)⟩, ⟨by (with_reducible repeat (first | apply Kd.R_alloc | apply Kd.R_drewN | apply Kd.R_drew)); exact Kd.R_mono HO127.out (fun _ hk => ⟨hk.1.2, hk.2⟩)⟩, ⟨by (with_reducible repeat (first | apply Kd.S_alloc | apply Kd.S_drewN | apply Kd.S_drew)); exact Kd.S_mono HO117.out (fun _ hk => ⟨hk.1.1.1.2, ⟨hk.1.1.2, ⟨hk.1.1.1.1, ⟨hk.1.2, hk.2⟩⟩⟩⟩)⟩, ⟨by repeat (first | (with_reducible first | exact HB.out | apply below_alloc | apply pw_below_drewN | apply below_drew1) | exact HB.out)⟩⟩
                case round =>
                  clear H'
                  try clear c1
                  try clear p2
                  try clear c4
                  try clear c6
                  try clear c6b0
                  try clear c6b1
                  try clear p6
                  try clear c7
                  try clear c10
                  try clear c10b0
                  try clear c10b1
                  try clear c11
                  try clear c11b0
                  try clear c11b1
                  try clear c11b2
                  try clear c12
                  try clear c12b0
                  try clear c12b1
                  try clear c12b2
                  try clear c14
                  try clear c14b0
                  try clear c14b1
                  try clear p2
                  obtain ⟨x6_2, x84_2, rfl, HA, HK2, HO_6, HO_7, HO_11, HO_14, HO_15, HO_82, HB⟩ := hrel
                  cases gk with
                  | zero => exact absurd HA.out (by simp [eddywheellaw06_ReadJoins.l0])
                  | succ k2 =>
                    have H := HA.out
                    clear HA
                    simp only [eddywheellaw06_ReadJoins.l0] at H
                    by_cases c20 : x84_2 < (t112.length : Int)
                    · rw [if_pos c20] at H
                      have c20b0 : decide (x84_2 < (t112.length : Int)) = true := decide_eq_true c20
                      clear c20
                      by_cases c21 : 0 ≤ x84_2
                      · rw [if_pos c21] at H
                        have c21b0 : decide (0 ≤ x84_2) = true := decide_eq_true c21
                        clear c21
                        by_cases c22 : x84_2 < (t112.length : Int)
                        · rw [if_pos c22] at H
                          have c22b0 : decide (x84_2 < (t112.length : Int)) = true := decide_eq_true c22
                          clear c22
                          have H' := Aside0.mk H
                          clear H
                          have p128 : 0 ≤ (x84_2 : Int) := of_decide_eq_true (by first | (with_reducible assumption) | assumption)
                          have q128 : x84_2 < (t112.length : Int) := of_decide_eq_true (by first | (with_reducible assumption) | assumption)
                          obtain ⟨ad128, A128_4, c128_4, e128, hx128_0, hx128_1, hx128_2, hx128_3, hx128_4, hl128_4, hi128_4⟩ := at_T32 (Kd.S_reads' HO_82.out).2.2 x84_2 p128 q128
                          cases e128
                          obtain ⟨ce128, hce128, hMe128, hcc128⟩ := Kd.S_get HO_82.out z32 x84_2 p128 (by first | exact q128 | exact of_decide_eq_true (by first | (with_reducible assumption) | assumption) | (have e_ := (Kd.S_reads' HO_82.out).1; omega))
                          obtain ⟨ve128_4, rfl, ge128_4⟩ := k32_openM hMe128
                          have hv128_4 := hcc128 4 _ rfl
                          rw [add_field _ _ 4 (by omega)] at hv128_4
                          replace hv128_4 := Option.some.inj (hv128_4.symm.trans hx128_4)
                          rw [hv128_4] at ge128_4
                          have HL128_4 := Aside0.mk (show Kd.R (Kd.int .i64) 3 _ _ _ _ ((rd_T32 t112 x84_2).f4) from ge128_4)
                          clear hv128_4 ge128_4
                          clear hcc128 hce128
                          have HR128_4 := Aside0.mk hi128_4
                          have HC128_4 := Aside0.mk hl128_4
                          clear hi128_4 hl128_4
                          replace p128 := eq_true p128
                          replace q128 := eq_true q128
                          go_wp2_with (first | ((with_reducible refine gate_dst (N := 20) rfl ?_); (try (refine gate_guard (by rfl) ?_; dsimp only)); refine box_event ?hg (N := 20) ?hd (cs := #[.int .u8 0, .int .i64 0, .int .i64 0, .string (⟨#[]⟩ : ByteArray), .slice none 0 0]) (t := 32) ?hr ?_; (case hd => rfl); (case hg => rfl); (case hr => first | (go_simp; done) | (go_simp; rfl)); intro gb129 hg w23 hbox hb; have n0_ := Aside0.mk (Kd.S_below (Kd.S_elderB (by (with_reducible repeat (first | apply Kd.S_alloc | apply Kd.S_drewN | apply Kd.S_drew)); exact HO_6.out) gb129 (Nat.le_of_eq hg.symm)) hb); have n1_ := Aside0.mk (Kd.R_below (by (with_reducible repeat (first | apply Kd.R_alloc | apply Kd.R_drewN | apply Kd.R_drew)); exact HO_7.out) hb); have n2_ := Aside0.mk (Kd.R_below (by (with_reducible repeat (first | apply Kd.R_alloc | apply Kd.R_drewN | apply Kd.R_drew)); exact HO_11.out) hb); have n3_ := Aside0.mk (Kd.S_below (Kd.S_elderB (by (with_reducible repeat (first | apply Kd.S_alloc | apply Kd.S_drewN | apply Kd.S_drew)); exact HO_14.out) gb129 (Nat.le_of_eq hg.symm)) hb); have n4_ := Aside0.mk (Kd.R_below (by (with_reducible repeat (first | apply Kd.R_alloc | apply Kd.R_drewN | apply Kd.R_drew)); exact HO_15.out) hb); have n5_ := Aside0.mk (Kd.S_below (Kd.S_elderB (by (with_reducible repeat (first | apply Kd.S_alloc | apply Kd.S_drewN | apply Kd.S_drew)); exact HO_82.out) gb129 (Nat.le_of_eq hg.symm)) hb); have n6_ := Aside0.mk (Kd.R_below (by (with_reducible repeat (first | apply Kd.R_alloc | apply Kd.R_drewN | apply Kd.R_drew)); exact HL128_4.out) hb); have n7_ := Aside0.mk (Kd.C_below (by repeat (first | (with_reducible exact HR128_4.out) | (with_reducible refine Kd.C_alloc ?_ _) | (with_reducible refine Kd.C_drewN ?_ _) | (with_reducible refine Kd.C_drew ?_) | exact HR128_4.out)) hb); have n8_ := Aside0.mk (below_step (by repeat (first | (with_reducible first | exact HB.out | apply below_alloc | apply pw_below_drewN | apply below_drew1) | exact HB.out)) hb); have n9_ := Aside0.mk (hbox); have n10_ := Aside0.mk ((by rw [hg]; exact (below_size (by repeat (first | (with_reducible first | exact HB.out | apply below_alloc | apply pw_below_drewN | apply below_drew1) | exact HB.out))) : w.heap.size ≤ gb129)); have n11_ := Aside0.mk ((by rw [hg]; exact (below_size (by repeat (first | (with_reducible first | exact HB.out | apply below_alloc | apply pw_below_drewN | apply below_drew1) | exact HB.out))) : w.heap.size ≤ gb129)); clear HO_6; clear HO_7; clear HO_11; clear HO_14; clear HO_15; clear HO_82; clear HL128_4; clear HR128_4; clear HB; have HO_6 := n0_; have HO_7 := n1_; have HO_11 := n2_; have HO_14 := n3_; have HO_15 := n4_; have HO_82 := n5_; have HL128_4 := n6_; have HR128_4 := n7_; have HB := n8_; have BK129 := n9_; have GW129 := n10_; have GE129 := n11_; clear n0_ n1_ n2_ n3_ n4_ n5_ n6_ n7_ n8_ n9_ n10_ n11_; clear hb hbox hg; have hcz24_0 : w23.cell? ⟨gb129, 0, none⟩ = some (.int .u8 0) := (blk_cell BK129.out 0).trans rfl; have hcz24_1 : w23.cell? ⟨gb129, 1, none⟩ = some (.int .i64 0) := (blk_cell BK129.out 1).trans rfl; have hcz24_2 : w23.cell? ⟨gb129, 2, none⟩ = some (.int .i64 0) := (blk_cell BK129.out 2).trans rfl; have hcz24_3 : w23.cell? ⟨gb129, 3, none⟩ = some (.string (⟨#[]⟩ : ByteArray)) := (blk_cell BK129.out 3).trans rfl; have hcz24_4 : w23.cell? ⟨gb129, 4, none⟩ = some (.slice none 0 0) := (blk_cell BK129.out 4).trans rfl; have hfz24_0 := blk_frozen BK129.out 0; have hfz24_1 := blk_frozen BK129.out 1; have hfz24_2 := blk_frozen BK129.out 2; have hfz24_3 := blk_frozen BK129.out 3; have hfz24_4 := blk_frozen BK129.out 4))
                          go_loopg [21, 98] k2 (fun kq v21 v98 w' => ∃ (x21_3 : List Int) (x98_3 : Int), v98 = .int .i64 x98_3 ∧ Aside0 (eddywheellaw06_ReadJoins.l1 kq a0 t103 x6_2 t105 t113 t120 t121 t123 (t104.length : Int) x21_3 t112 (t112.length : Int) x84_2 ((rd_T32 t112 x84_2).f4) (((rd_T32 t112 x84_2).f4).length : Int) x98_3 ((rd_T32 t112 x84_2).f0) (wrap64 (((rd_T32 t112 x84_2).f1) + (wrap64 ((a0.size : Int) + 1)))) ((rd_T32 t112 x84_2).f2) ((rd_T32 t112 x84_2).f3) ((rd_T32 t112 x84_2).f4) = some r) ∧ Aside0 (kq ≤ k2) ∧ Aside0 (Kd.S k32 32 w' w.heap.size (fun k_ => some k_ ≠ (v110 : Value).ownBlock ∧ some k_ ≠ (v118 : Value).ownBlock ∧ some k_ ≠ (v124 : Value).ownBlock ∧ some k_ ≠ (v126 : Value).ownBlock ∧ some k_ ≠ (v21 : Value).ownBlock ∧ some k_ ≠ ((.slice (some ad128) t112.length co19) : Value).ownBlock ∧ k_ ≠ gb129) u6 x6_2) ∧ Aside0 (Kd.R (Kd.int .i64) 3 w' w.heap.size (fun k_ => some k_ ≠ (v118 : Value).ownBlock ∧ some k_ ≠ (v126 : Value).ownBlock ∧ some k_ ≠ (v21 : Value).ownBlock) v110 t105) ∧ Aside0 (Kd.R (Kd.int .i64) 3 w' w.heap.size (fun k_ => some k_ ≠ (v110 : Value).ownBlock ∧ some k_ ≠ (v126 : Value).ownBlock ∧ some k_ ≠ (v21 : Value).ownBlock) v118 t113) ∧ Aside0 (Kd.S k32 32 w' w.heap.size (fun k_ => some k_ ≠ (u6 : Value).ownBlock ∧ some k_ ≠ (v110 : Value).ownBlock ∧ some k_ ≠ (v118 : Value).ownBlock ∧ some k_ ≠ (v126 : Value).ownBlock ∧ some k_ ≠ (v21 : Value).ownBlock ∧ some k_ ≠ ((.slice (some ad128) t112.length co19) : Value).ownBlock ∧ k_ ≠ gb129) v124 t120) ∧ Aside0 (Kd.R (Kd.int .i64) 3 w' w.heap.size (fun k_ => some k_ ≠ (v110 : Value).ownBlock ∧ some k_ ≠ (v118 : Value).ownBlock ∧ some k_ ≠ (v21 : Value).ownBlock) v126 t121) ∧ Aside0 (Kd.R (Kd.int .i64) 3 w' w.heap.size (fun k_ => some k_ ≠ (v110 : Value).ownBlock ∧ some k_ ≠ (v118 : Value).ownBlock ∧ some k_ ≠ (v126 : Value).ownBlock) v21 x21_3) ∧ Aside0 (Kd.S k32 32 w' w.heap.size (fun k_ => some k_ ≠ (u6 : Value).ownBlock ∧ some k_ ≠ (v110 : Value).ownBlock ∧ some k_ ≠ (v118 : Value).ownBlock ∧ some k_ ≠ (v124 : Value).ownBlock ∧ some k_ ≠ (v126 : Value).ownBlock ∧ some k_ ≠ (v21 : Value).ownBlock ∧ k_ ≠ gb129) (.slice (some ad128) t112.length co19) t112) ∧ Aside0 (w'.heap[gb129]? = some (.cells #[.int .u8 ((rd_T32 t112 x84_2).f0), .int .i64 (wrap64 (((rd_T32 t112 x84_2).f1) + (wrap64 ((a0.size : Int) + 1)))), .int .i64 ((rd_T32 t112 x84_2).f2), .string ((rd_T32 t112 x84_2).f3), (.slice A128_4 ((rd_T32 t112 x84_2).f4).length c128_4)] 32 (0, 0))) ∧ Aside0 (Kd.R (Kd.int .i64) 3 w' w.heap.size (fun k_ => some k_ ≠ (v21 : Value).ownBlock) (.slice A128_4 (((rd_T32 t112 x84_2).f4)).length c128_4) ((rd_T32 t112 x84_2).f4)) ∧ Aside0 (Below w.heap.size w w'))
                          case atStart => exact ⟨(([] : List Int)), (0), (by first | rfl | (simp; done) | (simp [*]; done)), H', ⟨Nat.le_refl _⟩, ⟨by (with_reducible repeat (first | apply Kd.S_alloc | apply Kd.S_drewN | apply Kd.S_drew)); exact Kd.S_mono (Kd.S_far (p := ⟨gb129, 1, none⟩) (Kd.S_far (p := ⟨gb129, 4, none⟩) (Kd.S_far (p := ⟨gb129, 3, none⟩) (Kd.S_far (p := ⟨gb129, 2, none⟩) (Kd.S_far (p := ⟨gb129, 1, none⟩) (Kd.S_far (p := ⟨gb129, 0, none⟩) (Kd.S_mono HO_6.out (fun k_ hk => (⟨hk, hk.2⟩ : _ ∧ k_ ≠ gb129))) (fun _ hk => hk.2) (.int .u8 ((rd_T32 t112 x84_2).f0))) (fun _ hk => hk.2) (.int .i64 ((rd_T32 t112 x84_2).f1))) (fun _ hk => hk.2) (.int .i64 ((rd_T32 t112 x84_2).f2))) (fun _ hk => hk.2) (.string ((rd_T32 t112 x84_2).f3))) (fun _ hk => hk.2) (.slice A128_4 ((rd_T32 t112 x84_2).f4).length c128_4)) (fun _ hk => hk.2) (.int .i64 (wrap64 (((rd_T32 t112 x84_2).f1) + (wrap64 ((a0.size : Int) + 1)))))) (fun _ hk => ⟨hk.1.1.1, ⟨hk.1.1.2.1, ⟨hk.1.1.2.2.1, ⟨hk.1.1.2.2.2.1, ⟨(by simp [Value.ownBlock]), ⟨hk.1.1.2.2.2.2, hk.1.2⟩⟩⟩⟩⟩⟩)⟩, ⟨by (with_reducible repeat (first | apply Kd.R_alloc | apply Kd.R_drewN | apply Kd.R_drew)); exact Kd.R_mono (Kd.R_far (p := ⟨gb129, 1, none⟩) (Kd.R_far (p := ⟨gb129, 4, none⟩) (Kd.R_far (p := ⟨gb129, 3, none⟩) (Kd.R_far (p := ⟨gb129, 2, none⟩) (Kd.R_far (p := ⟨gb129, 1, none⟩) (Kd.R_far (p := ⟨gb129, 0, none⟩) (Kd.R_types HO_7.out BK129.out (by decide)) (fun _ hk => hk.2) (.int .u8 ((rd_T32 t112 x84_2).f0))) (fun _ hk => hk.2) (.int .i64 ((rd_T32 t112 x84_2).f1))) (fun _ hk => hk.2) (.int .i64 ((rd_T32 t112 x84_2).f2))) (fun _ hk => hk.2) (.string ((rd_T32 t112 x84_2).f3))) (fun _ hk => hk.2) (.slice A128_4 ((rd_T32 t112 x84_2).f4).length c128_4)) (fun _ hk => hk.2) (.int .i64 (wrap64 (((rd_T32 t112 x84_2).f1) + (wrap64 ((a0.size : Int) + 1)))))) (fun _ hk => ⟨hk.1.1, ⟨hk.1.2, (by simp [Value.ownBlock])⟩⟩)⟩, ⟨by (with_reducible repeat (first | apply Kd.R_alloc | apply Kd.R_drewN | apply Kd.R_drew)); exact Kd.R_mono (Kd.R_far (p := ⟨gb129, 1, none⟩) (Kd.R_far (p := ⟨gb129, 4, none⟩) (Kd.R_far (p := ⟨gb129, 3, none⟩) (Kd.R_far (p := ⟨gb129, 2, none⟩) (Kd.R_far (p := ⟨gb129, 1, none⟩) (Kd.R_far (p := ⟨gb129, 0, none⟩) (Kd.R_types HO_11.out BK129.out (by decide)) (fun _ hk => hk.2) (.int .u8 ((rd_T32 t112 x84_2).f0))) (fun _ hk => hk.2) (.int .i64 ((rd_T32 t112 x84_2).f1))) (fun _ hk => hk.2) (.int .i64 ((rd_T32 t112 x84_2).f2))) (fun _ hk => hk.2) (.string ((rd_T32 t112 x84_2).f3))) (fun _ hk => hk.2) (.slice A128_4 ((rd_T32 t112 x84_2).f4).length c128_4)) (fun _ hk => hk.2) (.int .i64 (wrap64 (((rd_T32 t112 x84_2).f1) + (wrap64 ((a0.size : Int) + 1)))))) (fun _ hk => ⟨hk.1.1, ⟨hk.1.2, (by simp [Value.ownBlock])⟩⟩)⟩, ⟨by (with_reducible repeat (first | apply Kd.S_alloc | apply Kd.S_drewN | apply Kd.S_drew)); exact Kd.S_mono (Kd.S_far (p := ⟨gb129, 1, none⟩) (Kd.S_far (p := ⟨gb129, 4, none⟩) (Kd.S_far (p := ⟨gb129, 3, none⟩) (Kd.S_far (p := ⟨gb129, 2, none⟩) (Kd.S_far (p := ⟨gb129, 1, none⟩) (Kd.S_far (p := ⟨gb129, 0, none⟩) (Kd.S_mono HO_14.out (fun k_ hk => (⟨hk, hk.2⟩ : _ ∧ k_ ≠ gb129))) (fun _ hk => hk.2) (.int .u8 ((rd_T32 t112 x84_2).f0))) (fun _ hk => hk.2) (.int .i64 ((rd_T32 t112 x84_2).f1))) (fun _ hk => hk.2) (.int .i64 ((rd_T32 t112 x84_2).f2))) (fun _ hk => hk.2) (.string ((rd_T32 t112 x84_2).f3))) (fun _ hk => hk.2) (.slice A128_4 ((rd_T32 t112 x84_2).f4).length c128_4)) (fun _ hk => hk.2) (.int .i64 (wrap64 (((rd_T32 t112 x84_2).f1) + (wrap64 ((a0.size : Int) + 1)))))) (fun _ hk => ⟨hk.1.1.1, ⟨hk.1.1.2.1, ⟨hk.1.1.2.2.1, ⟨hk.1.1.2.2.2.1, ⟨(by simp [Value.ownBlock]), ⟨hk.1.1.2.2.2.2, hk.1.2⟩⟩⟩⟩⟩⟩)⟩, ⟨by (with_reducible repeat (first | apply Kd.R_alloc | apply Kd.R_drewN | apply Kd.R_drew)); exact Kd.R_mono (Kd.R_far (p := ⟨gb129, 1, none⟩) (Kd.R_far (p := ⟨gb129, 4, none⟩) (Kd.R_far (p := ⟨gb129, 3, none⟩) (Kd.R_far (p := ⟨gb129, 2, none⟩) (Kd.R_far (p := ⟨gb129, 1, none⟩) (Kd.R_far (p := ⟨gb129, 0, none⟩) (Kd.R_types HO_15.out BK129.out (by decide)) (fun _ hk => hk.2) (.int .u8 ((rd_T32 t112 x84_2).f0))) (fun _ hk => hk.2) (.int .i64 ((rd_T32 t112 x84_2).f1))) (fun _ hk => hk.2) (.int .i64 ((rd_T32 t112 x84_2).f2))) (fun _ hk => hk.2) (.string ((rd_T32 t112 x84_2).f3))) (fun _ hk => hk.2) (.slice A128_4 ((rd_T32 t112 x84_2).f4).length c128_4)) (fun _ hk => hk.2) (.int .i64 (wrap64 (((rd_T32 t112 x84_2).f1) + (wrap64 ((a0.size : Int) + 1)))))) (fun _ hk => ⟨hk.1.1, ⟨hk.1.2, (by simp [Value.ownBlock])⟩⟩)⟩, ⟨by first | exact Kd.R_nil _ _ _ _ _ | exact Kd.N_nil _ _ _ _ _ | exact Kd.V_nil _ _ _ _ _ | exact Kd.Q_nil _ _ _ _ _ | exact Kd.S_nil _ _ _ _ _⟩, ⟨by (with_reducible repeat (first | apply Kd.S_alloc | apply Kd.S_drewN | apply Kd.S_drew)); exact Kd.S_mono (Kd.S_far (p := ⟨gb129, 1, none⟩) (Kd.S_far (p := ⟨gb129, 4, none⟩) (Kd.S_far (p := ⟨gb129, 3, none⟩) (Kd.S_far (p := ⟨gb129, 2, none⟩) (Kd.S_far (p := ⟨gb129, 1, none⟩) (Kd.S_far (p := ⟨gb129, 0, none⟩) (Kd.S_mono HO_82.out (fun k_ hk => (⟨hk, hk.2⟩ : _ ∧ k_ ≠ gb129))) (fun _ hk => hk.2) (.int .u8 ((rd_T32 t112 x84_2).f0))) (fun _ hk => hk.2) (.int .i64 ((rd_T32 t112 x84_2).f1))) (fun _ hk => hk.2) (.int .i64 ((rd_T32 t112 x84_2).f2))) (fun _ hk => hk.2) (.string ((rd_T32 t112 x84_2).f3))) (fun _ hk => hk.2) (.slice A128_4 ((rd_T32 t112 x84_2).f4).length c128_4)) (fun _ hk => hk.2) (.int .i64 (wrap64 (((rd_T32 t112 x84_2).f1) + (wrap64 ((a0.size : Int) + 1)))))) (fun _ hk => ⟨hk.1.1.1, ⟨hk.1.1.2.1, ⟨hk.1.1.2.2.1, ⟨hk.1.1.2.2.2.1, ⟨hk.1.1.2.2.2.2, ⟨(by simp [Value.ownBlock]), hk.1.2⟩⟩⟩⟩⟩⟩)⟩, ⟨by (with_reducible repeat (first | refine blk_drewN ?_ _ | refine blk_drew ?_ | refine blk_alloc ?_ _)); refine blk_put (cs := #[.int .u8 ((rd_T32 t112 x84_2).f0), .int .i64 ((rd_T32 t112 x84_2).f1), .int .i64 ((rd_T32 t112 x84_2).f2), .string ((rd_T32 t112 x84_2).f3), .slice A128_4 ((rd_T32 t112 x84_2).f4).length c128_4]) ?_ 1 _ rfl; (with_reducible repeat (first | refine blk_drewN ?_ _ | refine blk_drew ?_ | refine blk_alloc ?_ _)); refine blk_put (cs := #[.int .u8 ((rd_T32 t112 x84_2).f0), .int .i64 ((rd_T32 t112 x84_2).f1), .int .i64 ((rd_T32 t112 x84_2).f2), .string ((rd_T32 t112 x84_2).f3), .slice none 0 0]) ?_ 4 _ rfl; (with_reducible repeat (first | refine blk_drewN ?_ _ | refine blk_drew ?_ | refine blk_alloc ?_ _)); refine blk_put (cs := #[.int .u8 ((rd_T32 t112 x84_2).f0), .int .i64 ((rd_T32 t112 x84_2).f1), .int .i64 ((rd_T32 t112 x84_2).f2), .string (⟨#[]⟩ : ByteArray), .slice none 0 0]) ?_ 3 _ rfl; (with_reducible repeat (first | refine blk_drewN ?_ _ | refine blk_drew ?_ | refine blk_alloc ?_ _)); refine blk_put (cs := #[.int .u8 ((rd_T32 t112 x84_2).f0), .int .i64 ((rd_T32 t112 x84_2).f1), .int .i64 0, .string (⟨#[]⟩ : ByteArray), .slice none 0 0]) ?_ 2 _ rfl; (with_reducible repeat (first | refine blk_drewN ?_ _ | refine blk_drew ?_ | refine blk_alloc ?_ _)); refine blk_put (cs := #[.int .u8 ((rd_T32 t112 x84_2).f0), .int .i64 0, .int .i64 0, .string (⟨#[]⟩ : ByteArray), .slice none 0 0]) ?_ 1 _ rfl; (with_reducible repeat (first | refine blk_drewN ?_ _ | refine blk_drew ?_ | refine blk_alloc ?_ _)); refine blk_put (cs := #[.int .u8 0, .int .i64 0, .int .i64 0, .string (⟨#[]⟩ : ByteArray), .slice none 0 0]) ?_ 0 _ rfl; (with_reducible repeat (first | refine blk_drewN ?_ _ | refine blk_drew ?_ | refine blk_alloc ?_ _)); exact BK129.out⟩, ⟨by (with_reducible repeat (first | apply Kd.R_alloc | apply Kd.R_drewN | apply Kd.R_drew)); exact Kd.R_mono (Kd.R_far (p := ⟨gb129, 1, none⟩) (Kd.R_far (p := ⟨gb129, 4, none⟩) (Kd.R_far (p := ⟨gb129, 3, none⟩) (Kd.R_far (p := ⟨gb129, 2, none⟩) (Kd.R_far (p := ⟨gb129, 1, none⟩) (Kd.R_far (p := ⟨gb129, 0, none⟩) (Kd.R_types HL128_4.out BK129.out (by decide)) (fun _ hk => hk.2) (.int .u8 ((rd_T32 t112 x84_2).f0))) (fun _ hk => hk.2) (.int .i64 ((rd_T32 t112 x84_2).f1))) (fun _ hk => hk.2) (.int .i64 ((rd_T32 t112 x84_2).f2))) (fun _ hk => hk.2) (.string ((rd_T32 t112 x84_2).f3))) (fun _ hk => hk.2) (.slice A128_4 ((rd_T32 t112 x84_2).f4).length c128_4)) (fun _ hk => hk.2) (.int .i64 (wrap64 (((rd_T32 t112 x84_2).f1) + (wrap64 ((a0.size : Int) + 1)))))) (fun _ hk => (by simp [Value.ownBlock]))⟩, ⟨by repeat (first | (with_reducible first | exact HB.out | apply below_alloc | apply pw_below_drewN | apply below_drew1 | refine below_set ?_ GE129.out) | exact HB.out)⟩⟩
                          case round =>
                            clear H'
                            try clear c1
                            try clear p1
                            try clear q1
                            try clear hx1
                            try clear c2
                            try clear p2
                            try clear c4
                            try clear c6
                            try clear c6b0
                            try clear c6b1
                            try clear p6
                            try clear c7
                            try clear c10
                            try clear c10b0
                            try clear c10b1
                            try clear c11
                            try clear c11b0
                            try clear c11b1
                            try clear c11b2
                            try clear c12
                            try clear c12b0
                            try clear c12b1
                            try clear c12b2
                            try clear p12
                            try clear q12
                            try clear hx12
                            try clear c14
                            try clear c14b0
                            try clear c14b1
                            try clear c20
                            try clear c20b0
                            try clear c21
                            try clear c21b0
                            try clear c22
                            try clear c22b0
                            try clear hcz24_0
                            try clear hcz24_1
                            try clear hcz24_2
                            try clear hcz24_3
                            try clear hcz24_4
                            try clear hfz24_0
                            try clear hfz24_1
                            try clear hfz24_2
                            try clear hfz24_3
                            try clear hfz24_4
                            try clear hx128_0
                            try clear hx128_1
                            try clear hx128_2
                            try clear hx128_3
                            try clear hx128_4
                            try clear p128
                            try clear p2
                            try clear p6
                            try clear q128
                            obtain ⟨x21_3, x98_3, rfl, HA, HK3, HO_6, HO_7, HO_11, HO_14, HO_15, HO_21, HO_82, BK129, HO_96, HB⟩ := hrel
                            cases gk with
                            | zero => exact absurd HA.out (by simp [eddywheellaw06_ReadJoins.l1])
                            | succ k3 =>
                              have H := HA.out
                              clear HA
                              simp only [eddywheellaw06_ReadJoins.l1] at H
                              by_cases c25 : x98_3 < (((rd_T32 t112 x84_2).f4).length : Int)
                              · rw [if_pos c25] at H
                                have c25b0 : decide (x98_3 < (((rd_T32 t112 x84_2).f4).length : Int)) = true := decide_eq_true c25
                                clear c25
                                by_cases c26 : 0 ≤ x98_3
                                · rw [if_pos c26] at H
                                  have c26b0 : decide (0 ≤ x98_3) = true := decide_eq_true c26
                                  clear c26
                                  by_cases c27 : x98_3 < (((rd_T32 t112 x84_2).f4).length : Int)
                                  · rw [if_pos c27] at H
                                    have c27b0 : decide (x98_3 < (((rd_T32 t112 x84_2).f4).length : Int)) = true := decide_eq_true c27
                                    clear c27
                                    by_cases c28 : x21_3.length < 17592186044416
                                    · rw [if_pos c28] at H
                                      have LMc28 := Aside0.mk c28
                                      clear c28
                                      obtain ⟨y131, hy131⟩ : ∃ y_ : List Int, y_ = (x21_3 ++ [wrap64 ((rd ((rd_T32 t112 x84_2).f4) x98_3) + (t104.length : Int))]) := ⟨_, rfl⟩
                                      replace H : (eddywheellaw06_ReadJoins.l1 k3 a0 t103 x6_2 t105 t113 t120 t121 t123 (t104.length : Int) y131 t112 (t112.length : Int) x84_2 ((rd_T32 t112 x84_2).f4) (((rd_T32 t112 x84_2).f4).length : Int) (wrap64 (x98_3 + 1)) ((rd_T32 t112 x84_2).f0) (wrap64 (((rd_T32 t112 x84_2).f1) + (wrap64 ((a0.size : Int) + 1)))) ((rd_T32 t112 x84_2).f2) ((rd_T32 t112 x84_2).f3) ((rd_T32 t112 x84_2).f4)) = some r := by first | (rw [hy131]; with_reducible exact H) | (have H2_ := (Option.bind_some _ _).symm.trans H; rw [hy131]; with_reducible exact H2_) | (have H2_ := (Option.bind_some _ _).symm.trans H; with_reducible exact H2_) | with_reducible exact H | (rw [hy131]; exact H) | exact H
                                      have Ny131 := Aside0.mk hy131
                                      clear hy131
                                      have H' := Aside0.mk H
                                      clear H
                                      have p130 : 0 ≤ (x98_3 : Int) := of_decide_eq_true (by first | (with_reducible assumption) | assumption)
                                      have q130 : x98_3 < (((rd_T32 t112 x84_2).f4).length : Int) := of_decide_eq_true (by first | (with_reducible assumption) | assumption)
                                      obtain ⟨ad130, e130, hx130_0⟩ := Kd.at_int (Kd.R_reads' HO_96.out).2.2 x98_3 p130 q130
                                      cases e130
                                      skip
                                      replace p130 := eq_true p130
                                      replace q130 := eq_true q130
                                      go_wp2_with (first | ((with_reducible refine gate_builtin (b := .append) (xs := #[.tmp 102, .tmp 106]) rfl ?_); (try (refine gate_guard (by rfl) ?_; dsimp only)); at_builtin; refine Kd.R_append (Kd.int .i64) (w0 := w) w.heap.size rfl (.tmp 102) (.tmp 106) 24 3 (.int .i64 0) 8 rfl Tryd.underlying24 info3 rfl (by decide) (by omega) u21 x21_3 (wrap64 ((rd ((rd_T32 t112 x84_2).f4) x98_3) + (t104.length : Int))) [.int .i64 (wrap64 ((rd ((rd_T32 t112 x84_2).f4) x98_3) + (t104.length : Int)))] (fun k_ => some k_ ≠ (v110 : Value).ownBlock ∧ some k_ ≠ (v118 : Value).ownBlock ∧ some k_ ≠ (v126 : Value).ownBlock) (fun _ => False) rfl rfl ?aP (fun _ hk => hk.elim) ?aF ?aO ?aB ?aS ?aL ?_; (case aP => exact rfl); (case aB => exact (by repeat (first | (with_reducible first | exact HB.out | apply below_alloc | apply pw_below_drewN | apply below_drew1 | refine below_set ?_ GE129.out) | exact HB.out))); (case aF => exact (fun k_ hk => ⟨Kd.fresh' (Kd.R_lt (by (with_reducible repeat (first | apply Kd.R_alloc | apply Kd.R_drewN | apply Kd.R_drew)); exact HO_7.out)) k_ hk, Kd.fresh' (Kd.R_lt (by (with_reducible repeat (first | apply Kd.R_alloc | apply Kd.R_drewN | apply Kd.R_drew)); exact HO_11.out)) k_ hk, Kd.fresh' (Kd.R_lt (by (with_reducible repeat (first | apply Kd.R_alloc | apply Kd.R_drewN | apply Kd.R_drew)); exact HO_15.out)) k_ hk⟩)); (case aO => exact (by (with_reducible repeat (first | apply Kd.R_alloc | apply Kd.R_drewN | apply Kd.R_drew)); exact HO_21.out)); (case aS => exact (below_size (by repeat (first | (with_reducible first | exact HB.out | apply below_alloc | apply pw_below_drewN | apply below_drew1 | refine below_set ?_ GE129.out) | exact HB.out)))); (case aL => have := LMc28.out; omega); intro v132 w29 ho hb hg hat; rw [← Ny131.out] at ho; have n0_ := Aside0.mk (Kd.S_after (ok := (fun k_ => some k_ ≠ (v110 : Value).ownBlock ∧ some k_ ≠ (v118 : Value).ownBlock ∧ some k_ ≠ (v124 : Value).ownBlock ∧ some k_ ≠ (v126 : Value).ownBlock ∧ some k_ ≠ (.slice (some ad128) t112.length co19 : Value).ownBlock ∧ k_ ≠ gb129)) (by (with_reducible repeat (first | apply Kd.S_alloc | apply Kd.S_drewN | apply Kd.S_drew)); exact Kd.S_mono HO_6.out (fun _ hk => ⟨⟨hk.1, ⟨hk.2.1, ⟨hk.2.2.1, ⟨hk.2.2.2.1, ⟨hk.2.2.2.2.2.1, hk.2.2.2.2.2.2⟩⟩⟩⟩⟩, hk.2.2.2.2.1⟩)) hg hat); have n1_ := Aside0.mk (Kd.R_after (ok := (fun k_ => some k_ ≠ (v118 : Value).ownBlock ∧ some k_ ≠ (v126 : Value).ownBlock)) (by (with_reducible repeat (first | apply Kd.R_alloc | apply Kd.R_drewN | apply Kd.R_drew)); exact Kd.R_mono HO_7.out (fun _ hk => ⟨⟨hk.1, hk.2.1⟩, hk.2.2⟩)) hg hat); have n2_ := Aside0.mk (Kd.R_after (ok := (fun k_ => some k_ ≠ (v110 : Value).ownBlock ∧ some k_ ≠ (v126 : Value).ownBlock)) (by (with_reducible repeat (first | apply Kd.R_alloc | apply Kd.R_drewN | apply Kd.R_drew)); exact Kd.R_mono HO_11.out (fun _ hk => ⟨⟨hk.1, hk.2.1⟩, hk.2.2⟩)) hg hat); have n3_ := Aside0.mk (Kd.S_after (ok := (fun k_ => some k_ ≠ (u6 : Value).ownBlock ∧ some k_ ≠ (v110 : Value).ownBlock ∧ some k_ ≠ (v118 : Value).ownBlock ∧ some k_ ≠ (v126 : Value).ownBlock ∧ some k_ ≠ (.slice (some ad128) t112.length co19 : Value).ownBlock ∧ k_ ≠ gb129)) (by (with_reducible repeat (first | apply Kd.S_alloc | apply Kd.S_drewN | apply Kd.S_drew)); exact Kd.S_mono HO_14.out (fun _ hk => ⟨⟨hk.1, ⟨hk.2.1, ⟨hk.2.2.1, ⟨hk.2.2.2.1, ⟨hk.2.2.2.2.2.1, hk.2.2.2.2.2.2⟩⟩⟩⟩⟩, hk.2.2.2.2.1⟩)) hg hat); have n4_ := Aside0.mk (Kd.R_after (ok := (fun k_ => some k_ ≠ (v110 : Value).ownBlock ∧ some k_ ≠ (v118 : Value).ownBlock)) (by (with_reducible repeat (first | apply Kd.R_alloc | apply Kd.R_drewN | apply Kd.R_drew)); exact Kd.R_mono HO_15.out (fun _ hk => ⟨⟨hk.1, hk.2.1⟩, hk.2.2⟩)) hg hat); have n5_ := Aside0.mk (Kd.S_after (ok := (fun k_ => some k_ ≠ (u6 : Value).ownBlock ∧ some k_ ≠ (v110 : Value).ownBlock ∧ some k_ ≠ (v118 : Value).ownBlock ∧ some k_ ≠ (v124 : Value).ownBlock ∧ some k_ ≠ (v126 : Value).ownBlock ∧ k_ ≠ gb129)) (by (with_reducible repeat (first | apply Kd.S_alloc | apply Kd.S_drewN | apply Kd.S_drew)); exact Kd.S_mono HO_82.out (fun _ hk => ⟨⟨hk.1, ⟨hk.2.1, ⟨hk.2.2.1, ⟨hk.2.2.2.1, ⟨hk.2.2.2.2.1, hk.2.2.2.2.2.2⟩⟩⟩⟩⟩, hk.2.2.2.2.2.1⟩)) hg hat); have n6_ := Aside0.mk (blk_grown (g := gb129) (o := .cells #[.int .u8 ((rd_T32 t112 x84_2).f0), .int .i64 (wrap64 (((rd_T32 t112 x84_2).f1) + (wrap64 ((a0.size : Int) + 1)))), .int .i64 ((rd_T32 t112 x84_2).f2), .string ((rd_T32 t112 x84_2).f3), .slice (some ad130) ((rd_T32 t112 x84_2).f4).length c128_4] 32 (0, 0)) (by (with_reducible repeat (first | refine blk_drewN ?_ _ | refine blk_drew ?_ | refine blk_alloc ?_ _)); exact BK129.out) hg (Kd.R_ne HO_21.out BK129.out (by decide))); have n7_ := Aside0.mk (hb); have n8_ := Aside0.mk (ho); have n9_ := Aside0.mk (Kd.R_after (ok := (fun _ => True)) (by (with_reducible repeat (first | apply Kd.R_alloc | apply Kd.R_drewN | apply Kd.R_drew)); exact Kd.R_mono HO_96.out (fun _ hk => ⟨trivial, hk⟩)) hg hat); clear HO_96; clear HO_6; clear HO_7; clear HO_11; clear HO_14; clear HO_15; clear HO_82; clear BK129; clear HB; clear HO_21; have HO_6 := n0_; have HO_7 := n1_; have HO_11 := n2_; have HO_14 := n3_; have HO_15 := n4_; have HO_82 := n5_; have BK129 := n6_; have HB := n7_; have HO133 := n8_; have HO_96 := n9_; clear n9_; clear n0_ n1_ n2_ n3_ n4_ n5_ n6_ n7_ n8_; clear ho hb hg hat))
                                      go_roundg k3
                                      case measure => have := HJ3.out; have := HK2.out; have := HK3.out; omega
                                      case rel => exact ⟨(y131), (wrap64 (x98_3 + 1)), (by first | rfl | (simp; done) | (simp [*]; done)), H', ⟨by have := HJ3.out; have := HK2.out; have := HK3.out; omega⟩, ⟨by (with_reducible repeat (first | apply Kd.S_alloc | apply Kd.S_drewN | apply Kd.S_drew)); exact Kd.S_mono HO_6.out (fun _ hk => ⟨hk.1.1, ⟨hk.1.2.1, ⟨hk.1.2.2.1, ⟨hk.1.2.2.2.1, ⟨hk.2, ⟨hk.1.2.2.2.2.1, hk.1.2.2.2.2.2⟩⟩⟩⟩⟩⟩)⟩, ⟨by (with_reducible repeat (first | apply Kd.R_alloc | apply Kd.R_drewN | apply Kd.R_drew)); exact Kd.R_mono HO_7.out (fun _ hk => ⟨hk.1.1, ⟨hk.1.2, hk.2⟩⟩)⟩, ⟨by (with_reducible repeat (first | apply Kd.R_alloc | apply Kd.R_drewN | apply Kd.R_drew)); exact Kd.R_mono HO_11.out (fun _ hk => ⟨hk.1.1, ⟨hk.1.2, hk.2⟩⟩)⟩, ⟨by (with_reducible repeat (first | apply Kd.S_alloc | apply Kd.S_drewN | apply Kd.S_drew)); exact Kd.S_mono HO_14.out (fun _ hk => ⟨hk.1.1, ⟨hk.1.2.1, ⟨hk.1.2.2.1, ⟨hk.1.2.2.2.1, ⟨hk.2, ⟨hk.1.2.2.2.2.1, hk.1.2.2.2.2.2⟩⟩⟩⟩⟩⟩)⟩, ⟨by (with_reducible repeat (first | apply Kd.R_alloc | apply Kd.R_drewN | apply Kd.R_drew)); exact Kd.R_mono HO_15.out (fun _ hk => ⟨hk.1.1, ⟨hk.1.2, hk.2⟩⟩)⟩, ⟨by (with_reducible repeat (first | apply Kd.R_alloc | apply Kd.R_drewN | apply Kd.R_drew)); exact HO133.out⟩, ⟨by (with_reducible repeat (first | apply Kd.S_alloc | apply Kd.S_drewN | apply Kd.S_drew)); exact Kd.S_mono HO_82.out (fun _ hk => ⟨hk.1.1, ⟨hk.1.2.1, ⟨hk.1.2.2.1, ⟨hk.1.2.2.2.1, ⟨hk.1.2.2.2.2.1, ⟨hk.2, hk.1.2.2.2.2.2⟩⟩⟩⟩⟩⟩)⟩, ⟨by (with_reducible repeat (first | refine blk_drewN ?_ _ | refine blk_drew ?_ | refine blk_alloc ?_ _)); exact BK129.out⟩, ⟨by (with_reducible repeat (first | apply Kd.R_alloc | apply Kd.R_drewN | apply Kd.R_drew)); exact Kd.R_mono HO_96.out (fun _ hk => hk.2)⟩, ⟨by repeat (first | (with_reducible first | exact HB.out | apply below_alloc | apply pw_below_drewN | apply below_drew1 | refine below_set ?_ GE129.out) | exact HB.out)⟩⟩
                                    · rw [if_neg c28] at H
                                      exact absurd H (by simp)
                                  · rw [if_neg c27] at H
                                    exact absurd H (by simp)
                                · rw [if_neg c26] at H
                                  exact absurd H (by simp)
                              · rw [if_neg c25] at H
                                have c25b0 : decide (x98_3 < (((rd_T32 t112 x84_2).f4).length : Int)) = false := decide_eq_false c25
                                clear c25
                                by_cases c30 : x6_2.length < 2199023255552
                                · rw [if_pos c30] at H
                                  have LMc30 := Aside0.mk c30
                                  clear c30
                                  obtain ⟨y134, hy134⟩ : ∃ y_ : List (S32), y_ = (x6_2 ++ [(⟨((rd_T32 t112 x84_2).f0), (wrap64 (((rd_T32 t112 x84_2).f1) + (wrap64 ((a0.size : Int) + 1)))), ((rd_T32 t112 x84_2).f2), ((rd_T32 t112 x84_2).f3), x21_3⟩ : S32)]) := ⟨_, rfl⟩
                                  replace H : (eddywheellaw06_ReadJoins.l0 k3 a0 t103 y134 t105 t113 t120 t121 t123 (t104.length : Int) t112 (t112.length : Int) (wrap64 (x84_2 + 1))) = some r := by first | (rw [hy134]; with_reducible exact H) | (have H2_ := (Option.bind_some _ _).symm.trans H; rw [hy134]; with_reducible exact H2_) | (have H2_ := (Option.bind_some _ _).symm.trans H; with_reducible exact H2_) | with_reducible exact H | (rw [hy134]; exact H) | exact H
                                  have Ny134 := Aside0.mk hy134
                                  clear hy134
                                  have H' := Aside0.mk H
                                  clear H
                                  obtain ⟨Ao31, co31, eo31⟩ := Kd.R_slice HO_21.out
                                  subst eo31
                                  have hcz32_0 : wr.cell? ⟨gb129, 0, none⟩ = some (.int .u8 ((rd_T32 t112 x84_2).f0)) := (blk_cell BK129.out 0).trans rfl
                                  have hcz32_1 : wr.cell? ⟨gb129, 1, none⟩ = some (.int .i64 (wrap64 (((rd_T32 t112 x84_2).f1) + (wrap64 ((a0.size : Int) + 1))))) := (blk_cell BK129.out 1).trans rfl
                                  have hcz32_2 : wr.cell? ⟨gb129, 2, none⟩ = some (.int .i64 ((rd_T32 t112 x84_2).f2)) := (blk_cell BK129.out 2).trans rfl
                                  have hcz32_3 : wr.cell? ⟨gb129, 3, none⟩ = some (.string ((rd_T32 t112 x84_2).f3)) := (blk_cell BK129.out 3).trans rfl
                                  have hcz32_4 : wr.cell? ⟨gb129, 4, none⟩ = some (.slice A128_4 ((rd_T32 t112 x84_2).f4).length c128_4) := (blk_cell BK129.out 4).trans rfl
                                  have hfz32_0 := blk_frozen BK129.out 0
                                  have hfz32_1 := blk_frozen BK129.out 1
                                  have hfz32_2 := blk_frozen BK129.out 2
                                  have hfz32_3 := blk_frozen BK129.out 3
                                  have hfz32_4 := blk_frozen BK129.out 4
                                  go_wp2_with (first | ((with_reducible refine gate_store (t := 24) (p := 110) rfl ?_); refine store_event (t := 24) (p := 110) (v := ?vo_w33) (w1 := (wr.setCell ⟨gb129, 4, none⟩ (.slice Ao31 x21_3.length co31))) ?hg ?ho ?hn ?hr ?_; (case ho => rfl); (case hg => rfl); (case hn => rfl); (case hr => first | (go_simp; done) | (go_simp; rfl)); intro w33 hw; have n0_ : Aside0 (Kd.S k32 32 w33 w.heap.size (fun k_ => some k_ ≠ (v110 : Value).ownBlock ∧ some k_ ≠ (v118 : Value).ownBlock ∧ some k_ ≠ (v124 : Value).ownBlock ∧ some k_ ≠ (v126 : Value).ownBlock ∧ some k_ ≠ (.slice Ao31 x21_3.length co31 : Value).ownBlock ∧ some k_ ≠ (.slice (some ad128) t112.length co19 : Value).ownBlock ∧ k_ ≠ gb129) u6 x6_2) := ⟨(by rw [hw]; exact (by (with_reducible repeat (first | apply Kd.S_alloc | apply Kd.S_drewN | apply Kd.S_drew)); exact Kd.S_mono (Kd.S_far (p := ⟨gb129, 4, none⟩) (Kd.S_mono HO_6.out (fun k_ hk => (⟨hk, hk.2.2.2.2.2.2⟩ : _ ∧ k_ ≠ gb129))) (fun _ hk => hk.2) (.slice Ao31 x21_3.length co31)) (fun _ hk => ⟨hk.1.1, ⟨hk.1.2.1, ⟨hk.1.2.2.1, ⟨hk.1.2.2.2.1, ⟨hk.1.2.2.2.2.1, ⟨hk.1.2.2.2.2.2.1, hk.1.2.2.2.2.2.2⟩⟩⟩⟩⟩⟩)))⟩; have n1_ : Aside0 (Kd.R (Kd.int .i64) 3 w33 w.heap.size (fun k_ => some k_ ≠ (v118 : Value).ownBlock ∧ some k_ ≠ (v126 : Value).ownBlock ∧ some k_ ≠ (.slice Ao31 x21_3.length co31 : Value).ownBlock) v110 t105) := ⟨(by rw [hw]; exact (by (with_reducible repeat (first | apply Kd.R_alloc | apply Kd.R_drewN | apply Kd.R_drew)); exact Kd.R_mono (Kd.R_far (p := ⟨gb129, 4, none⟩) (Kd.R_types HO_7.out BK129.out (by decide)) (fun _ hk => hk.2) (.slice Ao31 x21_3.length co31)) (fun _ hk => ⟨hk.1.1, ⟨hk.1.2.1, hk.1.2.2⟩⟩)))⟩; have n2_ : Aside0 (Kd.R (Kd.int .i64) 3 w33 w.heap.size (fun k_ => some k_ ≠ (v110 : Value).ownBlock ∧ some k_ ≠ (v126 : Value).ownBlock ∧ some k_ ≠ (.slice Ao31 x21_3.length co31 : Value).ownBlock) v118 t113) := ⟨(by rw [hw]; exact (by (with_reducible repeat (first | apply Kd.R_alloc | apply Kd.R_drewN | apply Kd.R_drew)); exact Kd.R_mono (Kd.R_far (p := ⟨gb129, 4, none⟩) (Kd.R_types HO_11.out BK129.out (by decide)) (fun _ hk => hk.2) (.slice Ao31 x21_3.length co31)) (fun _ hk => ⟨hk.1.1, ⟨hk.1.2.1, hk.1.2.2⟩⟩)))⟩; have n3_ : Aside0 (Kd.S k32 32 w33 w.heap.size (fun k_ => some k_ ≠ (u6 : Value).ownBlock ∧ some k_ ≠ (v110 : Value).ownBlock ∧ some k_ ≠ (v118 : Value).ownBlock ∧ some k_ ≠ (v126 : Value).ownBlock ∧ some k_ ≠ (.slice Ao31 x21_3.length co31 : Value).ownBlock ∧ some k_ ≠ (.slice (some ad128) t112.length co19 : Value).ownBlock ∧ k_ ≠ gb129) v124 t120) := ⟨(by rw [hw]; exact (by (with_reducible repeat (first | apply Kd.S_alloc | apply Kd.S_drewN | apply Kd.S_drew)); exact Kd.S_mono (Kd.S_far (p := ⟨gb129, 4, none⟩) (Kd.S_mono HO_14.out (fun k_ hk => (⟨hk, hk.2.2.2.2.2.2⟩ : _ ∧ k_ ≠ gb129))) (fun _ hk => hk.2) (.slice Ao31 x21_3.length co31)) (fun _ hk => ⟨hk.1.1, ⟨hk.1.2.1, ⟨hk.1.2.2.1, ⟨hk.1.2.2.2.1, ⟨hk.1.2.2.2.2.1, ⟨hk.1.2.2.2.2.2.1, hk.1.2.2.2.2.2.2⟩⟩⟩⟩⟩⟩)))⟩; have n4_ : Aside0 (Kd.R (Kd.int .i64) 3 w33 w.heap.size (fun k_ => some k_ ≠ (v110 : Value).ownBlock ∧ some k_ ≠ (v118 : Value).ownBlock ∧ some k_ ≠ (.slice Ao31 x21_3.length co31 : Value).ownBlock) v126 t121) := ⟨(by rw [hw]; exact (by (with_reducible repeat (first | apply Kd.R_alloc | apply Kd.R_drewN | apply Kd.R_drew)); exact Kd.R_mono (Kd.R_far (p := ⟨gb129, 4, none⟩) (Kd.R_types HO_15.out BK129.out (by decide)) (fun _ hk => hk.2) (.slice Ao31 x21_3.length co31)) (fun _ hk => ⟨hk.1.1, ⟨hk.1.2.1, hk.1.2.2⟩⟩)))⟩; have n5_ : Aside0 (Kd.R (Kd.int .i64) 3 w33 w.heap.size (fun k_ => some k_ ≠ (v110 : Value).ownBlock ∧ some k_ ≠ (v118 : Value).ownBlock ∧ some k_ ≠ (v126 : Value).ownBlock) (.slice Ao31 x21_3.length co31) x21_3) := ⟨(by rw [hw]; exact (by (with_reducible repeat (first | apply Kd.R_alloc | apply Kd.R_drewN | apply Kd.R_drew)); exact Kd.R_mono (Kd.R_far (p := ⟨gb129, 4, none⟩) (Kd.R_types HO_21.out BK129.out (by decide)) (fun _ hk => hk.2) (.slice Ao31 x21_3.length co31)) (fun _ hk => ⟨hk.1.1, ⟨hk.1.2.1, hk.1.2.2⟩⟩)))⟩; have n6_ : Aside0 (Kd.S k32 32 w33 w.heap.size (fun k_ => some k_ ≠ (u6 : Value).ownBlock ∧ some k_ ≠ (v110 : Value).ownBlock ∧ some k_ ≠ (v118 : Value).ownBlock ∧ some k_ ≠ (v124 : Value).ownBlock ∧ some k_ ≠ (v126 : Value).ownBlock ∧ some k_ ≠ (.slice Ao31 x21_3.length co31 : Value).ownBlock ∧ k_ ≠ gb129) (.slice (some ad128) t112.length co19) t112) := ⟨(by rw [hw]; exact (by (with_reducible repeat (first | apply Kd.S_alloc | apply Kd.S_drewN | apply Kd.S_drew)); exact Kd.S_mono (Kd.S_far (p := ⟨gb129, 4, none⟩) (Kd.S_mono HO_82.out (fun k_ hk => (⟨hk, hk.2.2.2.2.2.2⟩ : _ ∧ k_ ≠ gb129))) (fun _ hk => hk.2) (.slice Ao31 x21_3.length co31)) (fun _ hk => ⟨hk.1.1, ⟨hk.1.2.1, ⟨hk.1.2.2.1, ⟨hk.1.2.2.2.1, ⟨hk.1.2.2.2.2.1, ⟨hk.1.2.2.2.2.2.1, hk.1.2.2.2.2.2.2⟩⟩⟩⟩⟩⟩)))⟩; have n7_ : Aside0 (w33.heap[gb129]? = some (.cells #[.int .u8 ((rd_T32 t112 x84_2).f0), .int .i64 (wrap64 (((rd_T32 t112 x84_2).f1) + (wrap64 ((a0.size : Int) + 1)))), .int .i64 ((rd_T32 t112 x84_2).f2), .string ((rd_T32 t112 x84_2).f3), .slice Ao31 x21_3.length co31] 32 (0, 0))) := ⟨(by rw [hw]; exact (by (with_reducible repeat (first | refine blk_drewN ?_ _ | refine blk_drew ?_ | refine blk_alloc ?_ _)); refine blk_put (cs := #[.int .u8 ((rd_T32 t112 x84_2).f0), .int .i64 (wrap64 (((rd_T32 t112 x84_2).f1) + (wrap64 ((a0.size : Int) + 1)))), .int .i64 ((rd_T32 t112 x84_2).f2), .string ((rd_T32 t112 x84_2).f3), .slice A128_4 ((rd_T32 t112 x84_2).f4).length c128_4]) ?_ 4 _ rfl; (with_reducible repeat (first | refine blk_drewN ?_ _ | refine blk_drew ?_ | refine blk_alloc ?_ _)); exact BK129.out))⟩; have n8_ : Aside0 (Below w.heap.size w w33) := ⟨(by rw [hw]; exact (by repeat (first | (with_reducible first | exact HB.out | apply below_alloc | apply pw_below_drewN | apply below_drew1 | refine below_set ?_ GE129.out) | exact HB.out)))⟩; clear hw; clear HO_6; clear HO_7; clear HO_11; clear HO_14; clear HO_15; clear HO_21; clear HO_82; clear BK129; clear HB; have HO_6 := n0_; have HO_7 := n1_; have HO_11 := n2_; have HO_14 := n3_; have HO_15 := n4_; have HO_21 := n5_; have HO_82 := n6_; have BK129 := n7_; have HB := n8_; clear n0_ n1_ n2_ n3_ n4_ n5_ n6_ n7_ n8_; have hcz34_0 : w33.cell? ⟨gb129, 0, none⟩ = some (.int .u8 ((rd_T32 t112 x84_2).f0)) := (blk_cell BK129.out 0).trans rfl; have hcz34_1 : w33.cell? ⟨gb129, 1, none⟩ = some (.int .i64 (wrap64 (((rd_T32 t112 x84_2).f1) + (wrap64 ((a0.size : Int) + 1))))) := (blk_cell BK129.out 1).trans rfl; have hcz34_2 : w33.cell? ⟨gb129, 2, none⟩ = some (.int .i64 ((rd_T32 t112 x84_2).f2)) := (blk_cell BK129.out 2).trans rfl; have hcz34_3 : w33.cell? ⟨gb129, 3, none⟩ = some (.string ((rd_T32 t112 x84_2).f3)) := (blk_cell BK129.out 3).trans rfl; have hcz34_4 : w33.cell? ⟨gb129, 4, none⟩ = some (.slice Ao31 x21_3.length co31) := (blk_cell BK129.out 4).trans rfl; have hfz34_0 := blk_frozen BK129.out 0; have hfz34_1 := blk_frozen BK129.out 1; have hfz34_2 := blk_frozen BK129.out 2; have hfz34_3 := blk_frozen BK129.out 3; have hfz34_4 := blk_frozen BK129.out 4) | ((with_reducible refine gate_builtin (b := .append) (xs := #[.tmp 111, .tmp 113]) rfl ?_); (try (refine gate_guard (by rfl) ?_; dsimp only)); at_builtin; refine Kd.S_append k32 (w0 := w) w.heap.size rfl (.tmp 111) (.tmp 113) 23 32 (.agg #[(.int .u8 0), (.int .i64 0), (.int .i64 0), (.string ⟨#[]⟩), (.slice none 0 0)]) 64 rfl Tryd.underlying23 info32 rfl (by decide) (by omega) u6 x6_2 (⟨((rd_T32 t112 x84_2).f0), (wrap64 (((rd_T32 t112 x84_2).f1) + (wrap64 ((a0.size : Int) + 1)))), ((rd_T32 t112 x84_2).f2), ((rd_T32 t112 x84_2).f3), x21_3⟩ : S32) [.int .u8 ((rd_T32 t112 x84_2).f0), .int .i64 (wrap64 (((rd_T32 t112 x84_2).f1) + (wrap64 ((a0.size : Int) + 1)))), .int .i64 ((rd_T32 t112 x84_2).f2), .string ((rd_T32 t112 x84_2).f3), .slice Ao31 x21_3.length co31] (fun k_ => some k_ ≠ (v110 : Value).ownBlock ∧ some k_ ≠ (v118 : Value).ownBlock ∧ some k_ ≠ (v124 : Value).ownBlock ∧ some k_ ≠ (v126 : Value).ownBlock ∧ some k_ ≠ (.slice (some ad128) t112.length co19 : Value).ownBlock ∧ k_ ≠ gb129) (fun k_ => some k_ = (.slice Ao31 x21_3.length co31 : Value).ownBlock) rfl rfl ?aP (fun k_ hk_ => ((Kd.R_mono (ok' := fun k_ => ((fun k_ => some k_ ≠ (v110 : Value).ownBlock ∧ some k_ ≠ (v118 : Value).ownBlock ∧ some k_ ≠ (v124 : Value).ownBlock ∧ some k_ ≠ (v126 : Value).ownBlock ∧ some k_ ≠ (.slice (some ad128) t112.length co19 : Value).ownBlock ∧ k_ ≠ gb129)) k_ ∧ some k_ ≠ (u6 : Value).ownBlock) (Kd.R_types (Kd.R_apart' (Kd.R_apart' (Kd.R_apart' (HO_21.out) (Kd.S_typed HO_14.out) (by decide)) (Kd.S_typed HO_82.out) (by decide)) (Kd.S_typed HO_6.out) (by decide)) BK129.out (by decide)) (fun k_ hk => ⟨⟨hk.1.1.1.1.1, ⟨hk.1.1.1.1.2.1, ⟨hk.1.1.1.2, ⟨hk.1.1.1.1.2.2, ⟨hk.1.1.2, hk.2⟩⟩⟩⟩⟩, hk.1.2⟩))).1 k_ hk_.symm) ?aF ?aO ?aB ?aS ?aL ?_; (case aP => exact k32_mkM _ _ _ (⟨((rd_T32 t112 x84_2).f0), (wrap64 (((rd_T32 t112 x84_2).f1) + (wrap64 ((a0.size : Int) + 1)))), ((rd_T32 t112 x84_2).f2), ((rd_T32 t112 x84_2).f3), x21_3⟩ : S32) (Kd.R_mono (Kd.R_tight rfl (Kd.R_mono (ok' := fun k_ => ((fun k_ => some k_ ≠ (v110 : Value).ownBlock ∧ some k_ ≠ (v118 : Value).ownBlock ∧ some k_ ≠ (v124 : Value).ownBlock ∧ some k_ ≠ (v126 : Value).ownBlock ∧ some k_ ≠ (.slice (some ad128) t112.length co19 : Value).ownBlock ∧ k_ ≠ gb129)) k_ ∧ some k_ ≠ (u6 : Value).ownBlock) (Kd.R_types (Kd.R_apart' (Kd.R_apart' (Kd.R_apart' (HO_21.out) (Kd.S_typed HO_14.out) (by decide)) (Kd.S_typed HO_82.out) (by decide)) (Kd.S_typed HO_6.out) (by decide)) BK129.out (by decide)) (fun k_ hk => ⟨⟨hk.1.1.1.1.1, ⟨hk.1.1.1.1.2.1, ⟨hk.1.1.1.2, ⟨hk.1.1.1.1.2.2, ⟨hk.1.1.2, hk.2⟩⟩⟩⟩⟩, hk.1.2⟩))) (fun _ h_ => h_))); (case aB => exact (by repeat (first | (with_reducible first | exact HB.out | apply below_alloc | apply pw_below_drewN | apply below_drew1 | refine below_set ?_ GE129.out) | exact HB.out))); (case aF => exact (fun k_ hk => ⟨Kd.fresh' (Kd.R_lt (by (with_reducible repeat (first | apply Kd.R_alloc | apply Kd.R_drewN | apply Kd.R_drew)); exact HO_7.out)) k_ hk, Kd.fresh' (Kd.R_lt (by (with_reducible repeat (first | apply Kd.R_alloc | apply Kd.R_drewN | apply Kd.R_drew)); exact HO_11.out)) k_ hk, Kd.fresh' (Kd.S_lt (by (with_reducible repeat (first | apply Kd.S_alloc | apply Kd.S_drewN | apply Kd.S_drew)); exact HO_14.out)) k_ hk, Kd.fresh' (Kd.R_lt (by (with_reducible repeat (first | apply Kd.R_alloc | apply Kd.R_drewN | apply Kd.R_drew)); exact HO_15.out)) k_ hk, Kd.fresh' (Kd.S_lt (by (with_reducible repeat (first | apply Kd.S_alloc | apply Kd.S_drewN | apply Kd.S_drew)); exact HO_82.out)) k_ hk, Kd.freshB (g := gb129) (o := .cells #[.int .u8 ((rd_T32 t112 x84_2).f0), .int .i64 (wrap64 (((rd_T32 t112 x84_2).f1) + (wrap64 ((a0.size : Int) + 1)))), .int .i64 ((rd_T32 t112 x84_2).f2), .string ((rd_T32 t112 x84_2).f3), .slice Ao31 x21_3.length co31] 32 (0, 0)) (by (with_reducible repeat (first | refine blk_drewN ?_ _ | refine blk_drew ?_ | refine blk_alloc ?_ _)); exact BK129.out) k_ hk⟩)); (case aO => exact (by (with_reducible repeat (first | apply Kd.S_alloc | apply Kd.S_drewN | apply Kd.S_drew)); exact Kd.S_mono HO_6.out (fun k_ hk => ⟨⟨hk.1, ⟨hk.2.1, ⟨hk.2.2.1, ⟨hk.2.2.2.1, ⟨hk.2.2.2.2.2.1, hk.2.2.2.2.2.2⟩⟩⟩⟩⟩, fun e_ => hk.2.2.2.2.1 e_⟩))); (case aS => exact (below_size (by repeat (first | (with_reducible first | exact HB.out | apply below_alloc | apply pw_below_drewN | apply below_drew1 | refine below_set ?_ GE129.out) | exact HB.out)))); (case aL => have := LMc30.out; omega); intro v135 w35 ho hb hg hat; rw [← Ny134.out] at ho; have n0_ := Aside0.mk (Kd.R_over' (by (with_reducible repeat (first | apply Kd.R_alloc | apply Kd.R_drewN | apply Kd.R_drew)); exact HO_7.out) (Kd.S_typed (by (with_reducible repeat (first | apply Kd.S_alloc | apply Kd.S_drewN | apply Kd.S_drew)); exact HO_6.out)) (by decide) hg); have n1_ := Aside0.mk (Kd.R_over' (by (with_reducible repeat (first | apply Kd.R_alloc | apply Kd.R_drewN | apply Kd.R_drew)); exact HO_11.out) (Kd.S_typed (by (with_reducible repeat (first | apply Kd.S_alloc | apply Kd.S_drewN | apply Kd.S_drew)); exact HO_6.out)) (by decide) hg); have n2_ := Aside0.mk (Kd.S_after (ok := (fun k_ => some k_ ≠ (v110 : Value).ownBlock ∧ some k_ ≠ (v118 : Value).ownBlock ∧ some k_ ≠ (v126 : Value).ownBlock ∧ some k_ ≠ (.slice Ao31 x21_3.length co31 : Value).ownBlock ∧ some k_ ≠ (.slice (some ad128) t112.length co19 : Value).ownBlock ∧ k_ ≠ gb129)) (by (with_reducible repeat (first | apply Kd.S_alloc | apply Kd.S_drewN | apply Kd.S_drew)); exact Kd.S_mono HO_14.out (fun _ hk => ⟨⟨hk.2.1, ⟨hk.2.2.1, ⟨hk.2.2.2.1, ⟨hk.2.2.2.2.1, ⟨hk.2.2.2.2.2.1, hk.2.2.2.2.2.2⟩⟩⟩⟩⟩, hk.1⟩)) hg hat); have n3_ := Aside0.mk (Kd.R_over' (by (with_reducible repeat (first | apply Kd.R_alloc | apply Kd.R_drewN | apply Kd.R_drew)); exact HO_15.out) (Kd.S_typed (by (with_reducible repeat (first | apply Kd.S_alloc | apply Kd.S_drewN | apply Kd.S_drew)); exact HO_6.out)) (by decide) hg); have n4_ := Aside0.mk (Kd.S_after (ok := (fun k_ => some k_ ≠ (v110 : Value).ownBlock ∧ some k_ ≠ (v118 : Value).ownBlock ∧ some k_ ≠ (v124 : Value).ownBlock ∧ some k_ ≠ (v126 : Value).ownBlock ∧ some k_ ≠ (.slice Ao31 x21_3.length co31 : Value).ownBlock ∧ k_ ≠ gb129)) (by (with_reducible repeat (first | apply Kd.S_alloc | apply Kd.S_drewN | apply Kd.S_drew)); exact Kd.S_mono HO_82.out (fun _ hk => ⟨⟨hk.2.1, ⟨hk.2.2.1, ⟨hk.2.2.2.1, ⟨hk.2.2.2.2.1, ⟨hk.2.2.2.2.2.1, hk.2.2.2.2.2.2⟩⟩⟩⟩⟩, hk.1⟩)) hg hat); have n5_ := Aside0.mk (blk_grown (g := gb129) (o := .cells #[.int .u8 ((rd_T32 t112 x84_2).f0), .int .i64 (wrap64 (((rd_T32 t112 x84_2).f1) + (wrap64 ((a0.size : Int) + 1)))), .int .i64 ((rd_T32 t112 x84_2).f2), .string ((rd_T32 t112 x84_2).f3), .slice Ao31 x21_3.length co31] 32 (0, 0)) (by (with_reducible repeat (first | refine blk_drewN ?_ _ | refine blk_drew ?_ | refine blk_alloc ?_ _)); exact BK129.out) hg (Kd.S_away HO_6.out (fun _ hk => hk.2.2.2.2.2.2))); have n6_ := Aside0.mk (hb); have n7_ := Aside0.mk (ho); clear HO_7; clear HO_11; clear HO_14; clear HO_15; clear HO_82; clear BK129; clear HB; clear HO_6; clear HO_21; have HO_7 := n0_; have HO_11 := n1_; have HO_14 := n2_; have HO_15 := n3_; have HO_82 := n4_; have BK129 := n5_; have HB := n6_; have HO136 := n7_; clear n0_ n1_ n2_ n3_ n4_ n5_ n6_ n7_; clear ho hb hg hat))
                                  go_roundg k3
                                  case measure => have := HJ3.out; have := HK2.out; have := HK3.out; omega
                                  case rel => exact ⟨(y134), (wrap64 (x84_2 + 1)), (by first | rfl | (simp; done) | (simp [*]; done)), H', ⟨by have := HJ3.out; have := HK2.out; have := HK3.out; omega⟩, ⟨by (with_reducible repeat (first | apply Kd.S_alloc | apply Kd.S_drewN | apply Kd.S_drew)); exact Kd.S_mono HO136.out (fun _ hk => ⟨hk.1, ⟨hk.2.1, ⟨hk.2.2.1, ⟨hk.2.2.2.1, hk.2.2.2.2.1⟩⟩⟩⟩)⟩, ⟨by (with_reducible repeat (first | apply Kd.R_alloc | apply Kd.R_drewN | apply Kd.R_drew)); exact Kd.R_mono HO_7.out (fun _ hk => ⟨hk.1, hk.2.1⟩)⟩, ⟨by (with_reducible repeat (first | apply Kd.R_alloc | apply Kd.R_drewN | apply Kd.R_drew)); exact Kd.R_mono HO_11.out (fun _ hk => ⟨hk.1, hk.2.1⟩)⟩, ⟨by (with_reducible repeat (first | apply Kd.S_alloc | apply Kd.S_drewN | apply Kd.S_drew)); exact Kd.S_mono HO_14.out (fun _ hk => ⟨hk.2, ⟨hk.1.1, ⟨hk.1.2.1, ⟨hk.1.2.2.1, hk.1.2.2.2.2.1⟩⟩⟩⟩)⟩, ⟨by (with_reducible repeat (first | apply Kd.R_alloc | apply Kd.R_drewN | apply Kd.R_drew)); exact Kd.R_mono HO_15.out (fun _ hk => ⟨hk.1, hk.2.1⟩)⟩, ⟨by (with_reducible repeat (first | apply Kd.S_alloc | apply Kd.S_drewN | apply Kd.S_drew)); exact Kd.S_mono HO_82.out (fun _ hk => ⟨hk.2, ⟨hk.1.1, ⟨hk.1.2.1, ⟨hk.1.2.2.1, hk.1.2.2.2.1⟩⟩⟩⟩)⟩, ⟨by repeat (first | (with_reducible first | exact HB.out | apply below_alloc | apply pw_below_drewN | apply below_drew1 | refine below_set ?_ GE129.out) | exact HB.out)⟩⟩
                                · rw [if_neg c30] at H
                                  exact absurd H (by simp)
                        · rw [if_neg c22] at H
                          exact absurd H (by simp)
                      · rw [if_neg c21] at H
                        exact absurd H (by simp)
                    · rw [if_neg c20] at H
                      have c20b0 : decide (x84_2 < (t112.length : Int)) = false := decide_eq_false c20
                      clear c20
                      have H' := Aside0.mk H
                      clear H
                      obtain ⟨Ao36, co36, eo36⟩ := Kd.R_slice HO_11.out
                      subst eo36
                      go_wp2
                      go_loopg [7, 118] k2 (fun kq v7 v118 w' => ∃ (x7_3 : List Int) (x118_3 : Int), v118 = .int .i64 x118_3 ∧ Aside0 (eddywheellaw06_ReadJoins.l2 kq t103 x6_2 x7_3 t120 t121 t123 (t104.length : Int) t113 (t113.length : Int) x118_3 = some r) ∧ Aside0 (kq ≤ k2) ∧ Aside0 (Kd.S k32 32 w' w.heap.size (fun k_ => some k_ ≠ (v7 : Value).ownBlock ∧ some k_ ≠ (v124 : Value).ownBlock ∧ some k_ ≠ (v126 : Value).ownBlock ∧ some k_ ≠ ((.slice Ao36 t113.length co36) : Value).ownBlock) u6 x6_2) ∧ Aside0 (Kd.R (Kd.int .i64) 3 w' w.heap.size (fun k_ => some k_ ≠ (v126 : Value).ownBlock ∧ some k_ ≠ ((.slice Ao36 t113.length co36) : Value).ownBlock) v7 x7_3) ∧ Aside0 (Kd.S k32 32 w' w.heap.size (fun k_ => some k_ ≠ (u6 : Value).ownBlock ∧ some k_ ≠ (v7 : Value).ownBlock ∧ some k_ ≠ (v126 : Value).ownBlock ∧ some k_ ≠ ((.slice Ao36 t113.length co36) : Value).ownBlock) v124 t120) ∧ Aside0 (Kd.R (Kd.int .i64) 3 w' w.heap.size (fun k_ => some k_ ≠ (v7 : Value).ownBlock ∧ some k_ ≠ ((.slice Ao36 t113.length co36) : Value).ownBlock) v126 t121) ∧ Aside0 (Kd.R (Kd.int .i64) 3 w' w.heap.size (fun k_ => some k_ ≠ (v7 : Value).ownBlock ∧ some k_ ≠ (v126 : Value).ownBlock) (.slice Ao36 t113.length co36) t113) ∧ Aside0 (Below w.heap.size w w'))
                      case atStart => exact ⟨(t105), (0), (by first | rfl | (simp; done) | (simp [*]; done)), H', ⟨Nat.le_refl _⟩, ⟨by (with_reducible repeat (first | apply Kd.S_alloc | apply Kd.S_drewN | apply Kd.S_drew)); exact Kd.S_mono HO_6.out (fun _ hk => ⟨hk.1, ⟨hk.2.2.1, ⟨hk.2.2.2.1, hk.2.1⟩⟩⟩)⟩, ⟨by (with_reducible repeat (first | apply Kd.R_alloc | apply Kd.R_drewN | apply Kd.R_drew)); exact Kd.R_mono HO_7.out (fun _ hk => ⟨hk.2, hk.1⟩)⟩, ⟨by (with_reducible repeat (first | apply Kd.S_alloc | apply Kd.S_drewN | apply Kd.S_drew)); exact Kd.S_mono HO_14.out (fun _ hk => ⟨hk.1, ⟨hk.2.1, ⟨hk.2.2.2.1, hk.2.2.1⟩⟩⟩)⟩, ⟨by (with_reducible repeat (first | apply Kd.R_alloc | apply Kd.R_drewN | apply Kd.R_drew)); exact HO_15.out⟩, ⟨by (with_reducible repeat (first | apply Kd.R_alloc | apply Kd.R_drewN | apply Kd.R_drew)); exact HO_11.out⟩, ⟨by repeat (first | (with_reducible first | exact HB.out | apply below_alloc | apply pw_below_drewN | apply below_drew1) | exact HB.out)⟩⟩
                      case round =>
                        clear H'
                        try clear c1
                        try clear p1
                        try clear q1
                        try clear hx1
                        try clear c2
                        try clear p2
                        try clear c3
                        try clear c4
                        try clear c6
                        try clear c6b0
                        try clear c6b1
                        try clear p6
                        try clear c7
                        try clear c10
                        try clear c10b0
                        try clear c10b1
                        try clear c11
                        try clear c11b0
                        try clear c11b1
                        try clear c11b2
                        try clear c12
                        try clear c12b0
                        try clear c12b1
                        try clear c12b2
                        try clear p12
                        try clear q12
                        try clear hx12
                        try clear p13
                        try clear q13
                        try clear hx13
                        try clear c14
                        try clear c14b0
                        try clear c14b1
                        try clear c20
                        try clear c20b0
                        try clear c21
                        try clear c21b0
                        try clear c22
                        try clear c22b0
                        try clear c25
                        try clear c25b0
                        try clear c26
                        try clear c26b0
                        try clear c27
                        try clear c27b0
                        try clear c28
                        try clear c30
                        try clear hcz24_0
                        try clear hcz24_1
                        try clear hcz24_2
                        try clear hcz24_3
                        try clear hcz24_4
                        try clear hcz32_0
                        try clear hcz32_1
                        try clear hcz32_2
                        try clear hcz32_3
                        try clear hcz32_4
                        try clear hcz34_0
                        try clear hcz34_1
                        try clear hcz34_2
                        try clear hcz34_3
                        try clear hcz34_4
                        try clear hfz24_0
                        try clear hfz24_1
                        try clear hfz24_2
                        try clear hfz24_3
                        try clear hfz24_4
                        try clear hfz32_0
                        try clear hfz32_1
                        try clear hfz32_2
                        try clear hfz32_3
                        try clear hfz32_4
                        try clear hfz34_0
                        try clear hfz34_1
                        try clear hfz34_2
                        try clear hfz34_3
                        try clear hfz34_4
                        try clear hx128_0
                        try clear hx128_1
                        try clear hx128_2
                        try clear hx128_3
                        try clear hx128_4
                        try clear hx130_0
                        try clear p1
                        try clear p12
                        try clear p128
                        try clear p130
                        try clear p2
                        try clear p6
                        try clear q1
                        try clear q12
                        try clear q128
                        try clear q130
                        obtain ⟨x7_3, x118_3, rfl, HA, HK3, HO_6, HO_7, HO_14, HO_15, HO_116, HB⟩ := hrel
                        cases gk with
                        | zero => exact absurd HA.out (by simp [eddywheellaw06_ReadJoins.l2])
                        | succ k3 =>
                          have H := HA.out
                          clear HA
                          simp only [eddywheellaw06_ReadJoins.l2] at H
                          by_cases c37 : x118_3 < (t113.length : Int)
                          · rw [if_pos c37] at H
                            have c37b0 : decide (x118_3 < (t113.length : Int)) = true := decide_eq_true c37
                            clear c37
                            by_cases c38 : 0 ≤ x118_3
                            · rw [if_pos c38] at H
                              have c38b0 : decide (0 ≤ x118_3) = true := decide_eq_true c38
                              clear c38
                              by_cases c39 : x118_3 < (t113.length : Int)
                              · rw [if_pos c39] at H
                                have c39b0 : decide (x118_3 < (t113.length : Int)) = true := decide_eq_true c39
                                clear c39
                                by_cases c40 : x7_3.length < 17592186044416
                                · rw [if_pos c40] at H
                                  have LMc40 := Aside0.mk c40
                                  clear c40
                                  obtain ⟨y138, hy138⟩ : ∃ y_ : List Int, y_ = (x7_3 ++ [wrap64 ((rd t113 x118_3) + (t104.length : Int))]) := ⟨_, rfl⟩
                                  replace H : (eddywheellaw06_ReadJoins.l2 k3 t103 x6_2 y138 t120 t121 t123 (t104.length : Int) t113 (t113.length : Int) (wrap64 (x118_3 + 1))) = some r := by first | (rw [hy138]; with_reducible exact H) | (have H2_ := (Option.bind_some _ _).symm.trans H; rw [hy138]; with_reducible exact H2_) | (have H2_ := (Option.bind_some _ _).symm.trans H; with_reducible exact H2_) | with_reducible exact H | (rw [hy138]; exact H) | exact H
                                  have Ny138 := Aside0.mk hy138
                                  clear hy138
                                  have H' := Aside0.mk H
                                  clear H
                                  have p137 : 0 ≤ (x118_3 : Int) := of_decide_eq_true (by first | (with_reducible assumption) | assumption)
                                  have q137 : x118_3 < (t113.length : Int) := of_decide_eq_true (by first | (with_reducible assumption) | assumption)
                                  obtain ⟨ad137, e137, hx137_0⟩ := Kd.at_int (Kd.R_reads' HO_116.out).2.2 x118_3 p137 q137
                                  cases e137
                                  replace p137 := eq_true p137
                                  replace q137 := eq_true q137
                                  go_wp2_with (first | ((with_reducible refine gate_builtin (b := .append) (xs := #[.tmp 122, .tmp 126]) rfl ?_); (try (refine gate_guard (by rfl) ?_; dsimp only)); at_builtin; refine Kd.R_append (Kd.int .i64) (w0 := w) w.heap.size rfl (.tmp 122) (.tmp 126) 24 3 (.int .i64 0) 8 rfl Tryd.underlying24 info3 rfl (by decide) (by omega) u7 x7_3 (wrap64 ((rd t113 x118_3) + (t104.length : Int))) [.int .i64 (wrap64 ((rd t113 x118_3) + (t104.length : Int)))] (fun k_ => some k_ ≠ (v126 : Value).ownBlock ∧ some k_ ≠ (.slice (some ad137) t113.length co36 : Value).ownBlock) (fun _ => False) rfl rfl ?aP (fun _ hk => hk.elim) ?aF ?aO ?aB ?aS ?aL ?_; (case aP => exact rfl); (case aB => exact (by repeat (first | (with_reducible first | exact HB.out | apply below_alloc | apply pw_below_drewN | apply below_drew1) | exact HB.out))); (case aF => exact (fun k_ hk => ⟨Kd.fresh' (Kd.R_lt (by (with_reducible repeat (first | apply Kd.R_alloc | apply Kd.R_drewN | apply Kd.R_drew)); exact HO_15.out)) k_ hk, Kd.fresh' (Kd.R_lt (by (with_reducible repeat (first | apply Kd.R_alloc | apply Kd.R_drewN | apply Kd.R_drew)); exact HO_116.out)) k_ hk⟩)); (case aO => exact (by (with_reducible repeat (first | apply Kd.R_alloc | apply Kd.R_drewN | apply Kd.R_drew)); exact HO_7.out)); (case aS => exact (below_size (by repeat (first | (with_reducible first | exact HB.out | apply below_alloc | apply pw_below_drewN | apply below_drew1) | exact HB.out)))); (case aL => have := LMc40.out; omega); intro v139 w41 ho hb hg hat; rw [← Ny138.out] at ho; have n0_ := Aside0.mk (Kd.S_after (ok := (fun k_ => some k_ ≠ (v124 : Value).ownBlock ∧ some k_ ≠ (v126 : Value).ownBlock ∧ some k_ ≠ (.slice (some ad137) t113.length co36 : Value).ownBlock)) (by (with_reducible repeat (first | apply Kd.S_alloc | apply Kd.S_drewN | apply Kd.S_drew)); exact Kd.S_mono HO_6.out (fun _ hk => ⟨⟨hk.2.1, ⟨hk.2.2.1, hk.2.2.2⟩⟩, hk.1⟩)) hg hat); have n1_ := Aside0.mk (Kd.S_after (ok := (fun k_ => some k_ ≠ (u6 : Value).ownBlock ∧ some k_ ≠ (v126 : Value).ownBlock ∧ some k_ ≠ (.slice (some ad137) t113.length co36 : Value).ownBlock)) (by (with_reducible repeat (first | apply Kd.S_alloc | apply Kd.S_drewN | apply Kd.S_drew)); exact Kd.S_mono HO_14.out (fun _ hk => ⟨⟨hk.1, ⟨hk.2.2.1, hk.2.2.2⟩⟩, hk.2.1⟩)) hg hat); have n2_ := Aside0.mk (Kd.R_after (ok := (fun k_ => some k_ ≠ (.slice (some ad137) t113.length co36 : Value).ownBlock)) (by (with_reducible repeat (first | apply Kd.R_alloc | apply Kd.R_drewN | apply Kd.R_drew)); exact Kd.R_mono HO_15.out (fun _ hk => ⟨hk.2, hk.1⟩)) hg hat); have n3_ := Aside0.mk (Kd.R_after (ok := (fun k_ => some k_ ≠ (v126 : Value).ownBlock)) (by (with_reducible repeat (first | apply Kd.R_alloc | apply Kd.R_drewN | apply Kd.R_drew)); exact Kd.R_mono HO_116.out (fun _ hk => ⟨hk.2, hk.1⟩)) hg hat); have n4_ := Aside0.mk (hb); have n5_ := Aside0.mk (ho); clear HO_6; clear HO_14; clear HO_15; clear HO_116; clear HB; clear HO_7; have HO_6 := n0_; have HO_14 := n1_; have HO_15 := n2_; have HO_116 := n3_; have HB := n4_; have HO140 := n5_; clear n0_ n1_ n2_ n3_ n4_ n5_; clear ho hb hg hat))
                                  go_roundg k3
                                  case measure => have := HJ3.out; have := HK2.out; have := HK3.out; omega
                                  case rel => exact ⟨(y138), (wrap64 (x118_3 + 1)), (by first | rfl | (simp; done) | (simp [*]; done)), H', ⟨by have := HJ3.out; have := HK2.out; have := HK3.out; omega⟩, ⟨by (with_reducible repeat (first | apply Kd.S_alloc | apply Kd.S_drewN | apply Kd.S_drew)); exact Kd.S_mono HO_6.out (fun _ hk => ⟨hk.2, ⟨hk.1.1, ⟨hk.1.2.1, hk.1.2.2⟩⟩⟩)⟩, ⟨by (with_reducible repeat (first | apply Kd.R_alloc | apply Kd.R_drewN | apply Kd.R_drew)); exact HO140.out⟩, ⟨by (with_reducible repeat (first | apply Kd.S_alloc | apply Kd.S_drewN | apply Kd.S_drew)); exact Kd.S_mono HO_14.out (fun _ hk => ⟨hk.1.1, ⟨hk.2, ⟨hk.1.2.1, hk.1.2.2⟩⟩⟩)⟩, ⟨by (with_reducible repeat (first | apply Kd.R_alloc | apply Kd.R_drewN | apply Kd.R_drew)); exact Kd.R_mono HO_15.out (fun _ hk => ⟨hk.2, hk.1⟩)⟩, ⟨by (with_reducible repeat (first | apply Kd.R_alloc | apply Kd.R_drewN | apply Kd.R_drew)); exact Kd.R_mono HO_116.out (fun _ hk => ⟨hk.2, hk.1⟩)⟩, ⟨by repeat (first | (with_reducible first | exact HB.out | apply below_alloc | apply pw_below_drewN | apply below_drew1) | exact HB.out)⟩⟩
                                · rw [if_neg c40] at H
                                  exact absurd H (by simp)
                              · rw [if_neg c39] at H
                                exact absurd H (by simp)
                            · rw [if_neg c38] at H
                              exact absurd H (by simp)
                          · rw [if_neg c37] at H
                            have c37b0 : decide (x118_3 < (t113.length : Int)) = false := decide_eq_false c37
                            clear c37
                            by_cases c42 : t103 = true
                            · subst c42
                              have H1 : (if t123 = 0 then ((eddywheelref06_Same.f t120 x6_2).bind fun t141 => (if t141 = true then ((eddywheelref06_Ints.f k3 t121 x7_3).bind fun t142 => (some t142)) else (some false))) else (some false)) = some r := by rw [if_pos rfl] at H; exact H
                              clear H
                              have H := H1
                              clear H1
                              by_cases c43 : t123 = 0
                              · rw [if_pos c43] at H
                                have c43b0 : (t123 == 0) = true := beq_iff_eq.mpr c43
                                have c43b1 : (t123 != 0) = false := bne_eq_false_iff_eq.mpr c43
                                clear c43
                                replace H := Option.bind_eq_some_iff.mp H
                                obtain ⟨t141, A440, H⟩ := H
                                replace H : (if t141 = true then ((eddywheelref06_Ints.f k3 t121 x7_3).bind fun t142 => (some t142)) else (some false)) = some r := H
                                have A44 := Aside0.mk A440
                                clear A440
                                by_cases c45 : t141 = true
                                · subst c45
                                  have H1 : ((eddywheelref06_Ints.f k3 t121 x7_3).bind fun t142 => (some t142)) = some r := by rw [if_pos rfl] at H; exact H
                                  clear H
                                  have H := H1
                                  clear H1
                                  replace H := Option.bind_eq_some_iff.mp H
                                  obtain ⟨t142, A460, H⟩ := H
                                  replace H : (some t142) = some r := H
                                  have A46 := Aside0.mk A460
                                  clear A460
                                  obtain rfl := Option.some.inj H
                                  obtain ⟨Ao47, co47, eo47⟩ := Kd.S_slice HO_14.out
                                  subst eo47
                                  obtain ⟨Ao48, co48, eo48⟩ := Kd.S_slice HO_6.out
                                  subst eo48
                                  go_wp2_with (first | (go_at_call 13; (with_reducible refine (eddywheelref06_Same.calls _ _ t120 _ _ x6_2 true _ ?side1 ?side2 ?side3 ?side4 A44.out).mono ?_); (case side1 => repeat (first | exact (Kd.S_reads' HO_14.out).2.2 | (with_reducible refine Kd.C_alloc ?_ _) | (with_reducible refine Kd.C_drewN ?_ _) | (with_reducible refine Kd.C_drew ?_))); (case side2 => exact (Kd.S_reads' HO_14.out).2.1); (case side3 => repeat (first | exact (Kd.S_reads' HO_6.out).2.2 | (with_reducible refine Kd.C_alloc ?_ _) | (with_reducible refine Kd.C_drewN ?_ _) | (with_reducible refine Kd.C_drew ?_))); (case side4 => exact (Kd.S_reads' HO_6.out).2.1); rintro e w49 ⟨rfl, hb⟩; have n0_ := Aside0.mk (Kd.S_below (by (with_reducible repeat (first | apply Kd.S_alloc | apply Kd.S_drewN | apply Kd.S_drew)); exact HO_6.out) hb); have n1_ := Aside0.mk (Kd.R_below (by (with_reducible repeat (first | apply Kd.R_alloc | apply Kd.R_drewN | apply Kd.R_drew)); exact HO_7.out) hb); have n2_ := Aside0.mk (Kd.S_below (by (with_reducible repeat (first | apply Kd.S_alloc | apply Kd.S_drewN | apply Kd.S_drew)); exact HO_14.out) hb); have n3_ := Aside0.mk (Kd.R_below (by (with_reducible repeat (first | apply Kd.R_alloc | apply Kd.R_drewN | apply Kd.R_drew)); exact HO_15.out) hb); have n4_ := Aside0.mk (Kd.R_below (by (with_reducible repeat (first | apply Kd.R_alloc | apply Kd.R_drewN | apply Kd.R_drew)); exact HO_116.out) hb); have n5_ := Aside0.mk (below_step (by repeat (first | (with_reducible first | exact HB.out | apply below_alloc | apply pw_below_drewN | apply below_drew1) | exact HB.out)) hb); clear HO_6; clear HO_7; clear HO_14; clear HO_15; clear HO_116; clear HB; have HO_6 := n0_; have HO_7 := n1_; have HO_14 := n2_; have HO_15 := n3_; have HO_116 := n4_; have HB := n5_; clear n0_ n1_ n2_ n3_ n4_ n5_; (try clear hb); (try clear hb2); (try clear hk); (try clear hi); obtain ⟨Ao50, co50, eo50⟩ := Kd.R_slice HO_15.out; subst eo50; obtain ⟨Ao51, co51, eo51⟩ := Kd.R_slice HO_7.out; subst eo51) | (go_at_call 14; (with_reducible refine (eddywheelref06_Ints.calls k3 _ _ t121 _ _ x7_3 t142 _ ?side1 ?side2 ?side3 ?side4 A46.out).mono ?_); (case side1 => repeat (first | exact (Kd.R_reads' HO_15.out).2.2 | (with_reducible refine Kd.C_alloc ?_ _) | (with_reducible refine Kd.C_drewN ?_ _) | (with_reducible refine Kd.C_drew ?_))); (case side2 => exact (Kd.R_reads' HO_15.out).2.1); (case side3 => repeat (first | exact (Kd.R_reads' HO_7.out).2.2 | (with_reducible refine Kd.C_alloc ?_ _) | (with_reducible refine Kd.C_drewN ?_ _) | (with_reducible refine Kd.C_drew ?_))); (case side4 => exact (Kd.R_reads' HO_7.out).2.1); rintro e w' ⟨rfl, ⟨nd, rfl⟩⟩))
                                  go_ret
                                  exact ⟨by first | rfl | (simp [errW_none, errW_some] <;> rfl) | (simp [*, errW_none, errW_some] <;> rfl), by repeat (first | (with_reducible first | exact HB.out | apply below_alloc | apply pw_below_drewN | apply below_drew1) | exact HB.out)⟩
                                · replace c45 := Bool.eq_false_iff.mpr c45
                                  subst c45
                                  have H1 : (some false) = some r := by rw [if_neg (show ¬ (false = true) by decide)] at H; exact H
                                  clear H
                                  have H := H1
                                  clear H1
                                  obtain rfl := Option.some.inj H
                                  obtain ⟨Ao52, co52, eo52⟩ := Kd.S_slice HO_14.out
                                  subst eo52
                                  obtain ⟨Ao53, co53, eo53⟩ := Kd.S_slice HO_6.out
                                  subst eo53
                                  go_wp2_with (first | (go_at_call 13; (with_reducible refine (eddywheelref06_Same.calls _ _ t120 _ _ x6_2 false _ ?side1 ?side2 ?side3 ?side4 A44.out).mono ?_); (case side1 => repeat (first | exact (Kd.S_reads' HO_14.out).2.2 | (with_reducible refine Kd.C_alloc ?_ _) | (with_reducible refine Kd.C_drewN ?_ _) | (with_reducible refine Kd.C_drew ?_))); (case side2 => exact (Kd.S_reads' HO_14.out).2.1); (case side3 => repeat (first | exact (Kd.S_reads' HO_6.out).2.2 | (with_reducible refine Kd.C_alloc ?_ _) | (with_reducible refine Kd.C_drewN ?_ _) | (with_reducible refine Kd.C_drew ?_))); (case side4 => exact (Kd.S_reads' HO_6.out).2.1); rintro e w54 ⟨rfl, hb⟩; have n0_ := Aside0.mk (Kd.S_below (by (with_reducible repeat (first | apply Kd.S_alloc | apply Kd.S_drewN | apply Kd.S_drew)); exact HO_6.out) hb); have n1_ := Aside0.mk (Kd.R_below (by (with_reducible repeat (first | apply Kd.R_alloc | apply Kd.R_drewN | apply Kd.R_drew)); exact HO_7.out) hb); have n2_ := Aside0.mk (Kd.S_below (by (with_reducible repeat (first | apply Kd.S_alloc | apply Kd.S_drewN | apply Kd.S_drew)); exact HO_14.out) hb); have n3_ := Aside0.mk (Kd.R_below (by (with_reducible repeat (first | apply Kd.R_alloc | apply Kd.R_drewN | apply Kd.R_drew)); exact HO_15.out) hb); have n4_ := Aside0.mk (Kd.R_below (by (with_reducible repeat (first | apply Kd.R_alloc | apply Kd.R_drewN | apply Kd.R_drew)); exact HO_116.out) hb); have n5_ := Aside0.mk (below_step (by repeat (first | (with_reducible first | exact HB.out | apply below_alloc | apply pw_below_drewN | apply below_drew1) | exact HB.out)) hb); clear HO_6; clear HO_7; clear HO_14; clear HO_15; clear HO_116; clear HB; have HO_6 := n0_; have HO_7 := n1_; have HO_14 := n2_; have HO_15 := n3_; have HO_116 := n4_; have HB := n5_; clear n0_ n1_ n2_ n3_ n4_ n5_; (try clear hb); (try clear hb2); (try clear hk); (try clear hi)))
                                  go_ret
                                  exact ⟨by first | rfl | (simp [errW_none, errW_some] <;> rfl) | (simp [*, errW_none, errW_some] <;> rfl), by repeat (first | (with_reducible first | exact HB.out | apply below_alloc | apply pw_below_drewN | apply below_drew1) | exact HB.out)⟩
                              · rw [if_neg c43] at H
                                have c43b0 : (t123 == 0) = false := beq_eq_false_iff_ne.mpr c43
                                have c43b1 : (t123 != 0) = true := bne_iff_ne.mpr c43
                                obtain rfl := Option.some.inj H
                                go_wp2
                                go_ret
                                exact ⟨by first | rfl | (simp [errW_none, errW_some] <;> rfl) | (simp [*, errW_none, errW_some] <;> rfl), by repeat (first | (with_reducible first | exact HB.out | apply below_alloc | apply pw_below_drewN | apply below_drew1) | exact HB.out)⟩
                            · replace c42 := Bool.eq_false_iff.mpr c42
                              subst c42
                              have H1 : (some false) = some r := by rw [if_neg (show ¬ (false = true) by decide)] at H; exact H
                              clear H
                              have H := H1
                              clear H1
                              obtain rfl := Option.some.inj H
                              go_wp2
                              go_ret
                              exact ⟨by first | rfl | (simp [errW_none, errW_some] <;> rfl) | (simp [*, errW_none, errW_some] <;> rfl), by repeat (first | (with_reducible first | exact HB.out | apply below_alloc | apply pw_below_drewN | apply below_drew1) | exact HB.out)⟩
              · rw [if_neg c14] at H
                have c14b0 : (t115 == 0) = false := beq_eq_false_iff_ne.mpr c14
                have c14b1 : (t115 != 0) = true := bne_iff_ne.mpr c14
                by_cases c55 : t103 = true
                · subst c55
                  have H1 : (if t123 = t115 then (some (t122 == (wrap64 ((wrap64 (t114 + (a0.size : Int))) + 1)))) else (some false)) = some r := by rw [if_pos rfl] at H; exact H
                  clear H
                  have H := H1
                  clear H1
                  by_cases c56 : t123 = t115
                  · rw [if_pos c56] at H
                    have c56b0 : (t123 == t115) = true := beq_iff_eq.mpr c56
                    have c56b1 : (t123 != t115) = false := bne_eq_false_iff_eq.mpr c56
                    clear c56
                    obtain rfl := Option.some.inj H
                    go_wp2_with (first | ((with_reducible refine gate_callee (f := 11) rfl ?_); refine goesL_ (some 38) rfl rfl Tryd.func11 (by kernel_rfl) rfl #[.string a0] rfl (by (try simp only [List.map_toArray, List.map_cons, List.map_nil]); first | done | rfl | (simp only [List.length_drop, List.length_take]; rfl)) ?_; (with_reducible refine (read_Read.calls a0 t104 t105 t106 t107 _ A8.out).mono ?_); rintro e w57 ⟨v108, v110, rfl, ho0, ho1, hb⟩; refine ⟨_, rfl, ?_⟩; have n0_ := Aside0.mk (Kd.S_lower ho0 (below_size (by repeat (first | (with_reducible first | exact HB.out | apply below_alloc | apply pw_below_drewN | apply below_drew1) | exact HB.out)))); have n1_ := Aside0.mk (Kd.R_lower ho1 (below_size (by repeat (first | (with_reducible first | exact HB.out | apply below_alloc | apply pw_below_drewN | apply below_drew1) | exact HB.out)))); have n2_ := Aside0.mk (below_step (by repeat (first | (with_reducible first | exact HB.out | apply below_alloc | apply pw_below_drewN | apply below_drew1) | exact HB.out)) hb); clear HB; have HO109 := n0_; have HO111 := n1_; have HB := n2_; clear n0_ n1_ n2_; (try clear hb); (try clear hb2); (try clear hk); (try clear hi); (try clear ho0); (try clear ho1)) | ((with_reducible refine gate_callee (f := 11) rfl ?_); refine goesL_ (some 45) rfl rfl Tryd.func11 (by kernel_rfl) rfl #[.string a1] rfl (by (try simp only [List.map_toArray, List.map_cons, List.map_nil]); first | done | rfl | (simp only [List.length_drop, List.length_take]; rfl)) ?_; (with_reducible refine (read_Read.calls a1 t112 t113 t114 t115 _ A9.out).mono ?_); rintro e w58 ⟨v116, v118, rfl, ho0, ho1, hb⟩; refine ⟨_, rfl, ?_⟩; have n0_ := Aside0.mk (Kd.S_mono (Kd.S_told (Kd.S_told (Kd.S_old (by (with_reducible repeat (first | apply Kd.S_alloc | apply Kd.S_drewN | apply Kd.S_drew)); exact HO109.out) hb) (Kd.S_base ho0)) (Kd.R_base ho1)) (fun _ h_ => h_.1)); have n1_ := Aside0.mk (Kd.R_elder' (by (with_reducible repeat (first | apply Kd.R_alloc | apply Kd.R_drewN | apply Kd.R_drew)); exact HO111.out) (Kd.R_base ho1) hb); have n2_ := Aside0.mk (Kd.S_lower (Kd.S_new' (Kd.S_new' ho0 (Kd.S_lt (by (with_reducible repeat (first | apply Kd.S_alloc | apply Kd.S_drewN | apply Kd.S_drew)); exact HO109.out))) (Kd.R_lt (by (with_reducible repeat (first | apply Kd.R_alloc | apply Kd.R_drewN | apply Kd.R_drew)); exact HO111.out))) (below_size (by repeat (first | (with_reducible first | exact HB.out | apply below_alloc | apply pw_below_drewN | apply below_drew1) | exact HB.out)))); have n3_ := Aside0.mk (Kd.R_lower (Kd.R_new' ho1 (Kd.R_lt (by (with_reducible repeat (first | apply Kd.R_alloc | apply Kd.R_drewN | apply Kd.R_drew)); exact HO111.out))) (below_size (by repeat (first | (with_reducible first | exact HB.out | apply below_alloc | apply pw_below_drewN | apply below_drew1) | exact HB.out)))); have n4_ := Aside0.mk (below_step (by repeat (first | (with_reducible first | exact HB.out | apply below_alloc | apply pw_below_drewN | apply below_drew1) | exact HB.out)) hb); clear HO109; clear HO111; clear HB; have HO109 := n0_; have HO111 := n1_; have HO117 := n2_; have HO119 := n3_; have HB := n4_; clear n0_ n1_ n2_ n3_ n4_; (try clear hb); (try clear hb2); (try clear hk); (try clear hi); (try clear ho0); (try clear ho1)) | ((with_reducible refine gate_callee (f := 11) rfl ?_); refine goesL_ (some 58) rfl rfl Tryd.func11 (by kernel_rfl) rfl #[.string ((a0 ++ (⟨#[10]⟩ : ByteArray)) ++ a1)] rfl (by (try simp only [List.map_toArray, List.map_cons, List.map_nil]); first | done | rfl | (simp only [List.length_drop, List.length_take]; rfl)) ?_; (with_reducible refine (read_Read.calls ((a0 ++ (⟨#[10]⟩ : ByteArray)) ++ a1) t120 t121 t122 t123 _ A13.out).mono ?_); rintro e w59 ⟨v124, v126, rfl, ho0, ho1, hb⟩; refine ⟨_, rfl, ?_⟩; have n0_ := Aside0.mk (Kd.S_mono (Kd.S_told (Kd.S_told (Kd.S_old (by (with_reducible repeat (first | apply Kd.S_alloc | apply Kd.S_drewN | apply Kd.S_drew)); exact HO109.out) hb) (Kd.S_base ho0)) (Kd.R_base ho1)) (fun _ h_ => h_.1)); have n1_ := Aside0.mk (Kd.R_elder' (by (with_reducible repeat (first | apply Kd.R_alloc | apply Kd.R_drewN | apply Kd.R_drew)); exact HO111.out) (Kd.R_base ho1) hb); have n2_ := Aside0.mk (Kd.S_mono (Kd.S_told (Kd.S_told (Kd.S_old (by (with_reducible repeat (first | apply Kd.S_alloc | apply Kd.S_drewN | apply Kd.S_drew)); exact HO117.out) hb) (Kd.S_base ho0)) (Kd.R_base ho1)) (fun _ h_ => h_.1)); have n3_ := Aside0.mk (Kd.R_elder' (by (with_reducible repeat (first | apply Kd.R_alloc | apply Kd.R_drewN | apply Kd.R_drew)); exact HO119.out) (Kd.R_base ho1) hb); have n4_ := Aside0.mk (Kd.S_lower (Kd.S_new' (Kd.S_new' (Kd.S_new' (Kd.S_new' ho0 (Kd.S_lt (by (with_reducible repeat (first | apply Kd.S_alloc | apply Kd.S_drewN | apply Kd.S_drew)); exact HO109.out))) (Kd.R_lt (by (with_reducible repeat (first | apply Kd.R_alloc | apply Kd.R_drewN | apply Kd.R_drew)); exact HO111.out))) (Kd.S_lt (by (with_reducible repeat (first | apply Kd.S_alloc | apply Kd.S_drewN | apply Kd.S_drew)); exact HO117.out))) (Kd.R_lt (by (with_reducible repeat (first | apply Kd.R_alloc | apply Kd.R_drewN | apply Kd.R_drew)); exact HO119.out))) (below_size (by repeat (first | (with_reducible first | exact HB.out | apply below_alloc | apply pw_below_drewN | apply below_drew1) | exact HB.out)))); have n5_ := Aside0.mk (Kd.R_lower (Kd.R_new' (Kd.R_new' ho1 (Kd.R_lt (by (with_reducible repeat (first | apply Kd.R_alloc | apply Kd.R_drewN | apply Kd.R_drew)); exact HO111.out))) (Kd.R_lt (by (with_reducible repeat (first | apply Kd.R_alloc | apply Kd.R_drewN | apply Kd.R_drew)); exact HO119.out))) (below_size (by repeat (first | (with_reducible first | exact HB.out | apply below_alloc | apply pw_below_drewN | apply below_drew1) | exact HB.out)))); have n6_ := Aside0.mk (below_step (by repeat (first | (with_reducible first | exact HB.out | apply below_alloc | apply pw_below_drewN | apply below_drew1) | exact HB.out)) hb); clear HO109; clear HO111; clear HO117; clear HO119; clear HB; have HO109 := n0_; have HO111 := n1_; have HO117 := n2_; have HO119 := n3_; have HO125 := n4_; have HO127 := n5_; have HB := n6_; clear n0_ n1_ n2_ n3_ n4_ n5_ n6_; (try clear hb); (try clear hb2); (try clear hk); (try clear hi); (try clear ho0); (try clear ho1)))
                    go_ret
                    exact ⟨by first | rfl | (simp [errW_none, errW_some] <;> rfl) | (simp [*, errW_none, errW_some] <;> rfl), by repeat (first | (with_reducible first | exact HB.out | apply below_alloc | apply pw_below_drewN | apply below_drew1) | exact HB.out)⟩
                  · rw [if_neg c56] at H
                    have c56b0 : (t123 == t115) = false := beq_eq_false_iff_ne.mpr c56
                    have c56b1 : (t123 != t115) = true := bne_iff_ne.mpr c56
                    obtain rfl := Option.some.inj H
                    go_wp2_with (first | ((with_reducible refine gate_callee (f := 11) rfl ?_); refine goesL_ (some 38) rfl rfl Tryd.func11 (by kernel_rfl) rfl #[.string a0] rfl (by (try simp only [List.map_toArray, List.map_cons, List.map_nil]); first | done | rfl | (simp only [List.length_drop, List.length_take]; rfl)) ?_; (with_reducible refine (read_Read.calls a0 t104 t105 t106 t107 _ A8.out).mono ?_); rintro e w60 ⟨v108, v110, rfl, ho0, ho1, hb⟩; refine ⟨_, rfl, ?_⟩; have n0_ := Aside0.mk (Kd.S_lower ho0 (below_size (by repeat (first | (with_reducible first | exact HB.out | apply below_alloc | apply pw_below_drewN | apply below_drew1) | exact HB.out)))); have n1_ := Aside0.mk (Kd.R_lower ho1 (below_size (by repeat (first | (with_reducible first | exact HB.out | apply below_alloc | apply pw_below_drewN | apply below_drew1) | exact HB.out)))); have n2_ := Aside0.mk (below_step (by repeat (first | (with_reducible first | exact HB.out | apply below_alloc | apply pw_below_drewN | apply below_drew1) | exact HB.out)) hb); clear HB; have HO109 := n0_; have HO111 := n1_; have HB := n2_; clear n0_ n1_ n2_; (try clear hb); (try clear hb2); (try clear hk); (try clear hi); (try clear ho0); (try clear ho1)) | ((with_reducible refine gate_callee (f := 11) rfl ?_); refine goesL_ (some 45) rfl rfl Tryd.func11 (by kernel_rfl) rfl #[.string a1] rfl (by (try simp only [List.map_toArray, List.map_cons, List.map_nil]); first | done | rfl | (simp only [List.length_drop, List.length_take]; rfl)) ?_; (with_reducible refine (read_Read.calls a1 t112 t113 t114 t115 _ A9.out).mono ?_); rintro e w61 ⟨v116, v118, rfl, ho0, ho1, hb⟩; refine ⟨_, rfl, ?_⟩; have n0_ := Aside0.mk (Kd.S_mono (Kd.S_told (Kd.S_told (Kd.S_old (by (with_reducible repeat (first | apply Kd.S_alloc | apply Kd.S_drewN | apply Kd.S_drew)); exact HO109.out) hb) (Kd.S_base ho0)) (Kd.R_base ho1)) (fun _ h_ => h_.1)); have n1_ := Aside0.mk (Kd.R_elder' (by (with_reducible repeat (first | apply Kd.R_alloc | apply Kd.R_drewN | apply Kd.R_drew)); exact HO111.out) (Kd.R_base ho1) hb); have n2_ := Aside0.mk (Kd.S_lower (Kd.S_new' (Kd.S_new' ho0 (Kd.S_lt (by (with_reducible repeat (first | apply Kd.S_alloc | apply Kd.S_drewN | apply Kd.S_drew)); exact HO109.out))) (Kd.R_lt (by (with_reducible repeat (first | apply Kd.R_alloc | apply Kd.R_drewN | apply Kd.R_drew)); exact HO111.out))) (below_size (by repeat (first | (with_reducible first | exact HB.out | apply below_alloc | apply pw_below_drewN | apply below_drew1) | exact HB.out)))); have n3_ := Aside0.mk (Kd.R_lower (Kd.R_new' ho1 (Kd.R_lt (by (with_reducible repeat (first | apply Kd.R_alloc | apply Kd.R_drewN | apply Kd.R_drew)); exact HO111.out))) (below_size (by repeat (first | (with_reducible first | exact HB.out | apply below_alloc | apply pw_below_drewN | apply below_drew1) | exact HB.out)))); have n4_ := Aside0.mk (below_step (by repeat (first | (with_reducible first | exact HB.out | apply below_alloc | apply pw_below_drewN | apply below_drew1) | exact HB.out)) hb); clear HO109; clear HO111; clear HB; have HO109 := n0_; have HO111 := n1_; have HO117 := n2_; have HO119 := n3_; have HB := n4_; clear n0_ n1_ n2_ n3_ n4_; (try clear hb); (try clear hb2); (try clear hk); (try clear hi); (try clear ho0); (try clear ho1)) | ((with_reducible refine gate_callee (f := 11) rfl ?_); refine goesL_ (some 58) rfl rfl Tryd.func11 (by kernel_rfl) rfl #[.string ((a0 ++ (⟨#[10]⟩ : ByteArray)) ++ a1)] rfl (by (try simp only [List.map_toArray, List.map_cons, List.map_nil]); first | done | rfl | (simp only [List.length_drop, List.length_take]; rfl)) ?_; (with_reducible refine (read_Read.calls ((a0 ++ (⟨#[10]⟩ : ByteArray)) ++ a1) t120 t121 t122 t123 _ A13.out).mono ?_); rintro e w62 ⟨v124, v126, rfl, ho0, ho1, hb⟩; refine ⟨_, rfl, ?_⟩; have n0_ := Aside0.mk (Kd.S_mono (Kd.S_told (Kd.S_told (Kd.S_old (by (with_reducible repeat (first | apply Kd.S_alloc | apply Kd.S_drewN | apply Kd.S_drew)); exact HO109.out) hb) (Kd.S_base ho0)) (Kd.R_base ho1)) (fun _ h_ => h_.1)); have n1_ := Aside0.mk (Kd.R_elder' (by (with_reducible repeat (first | apply Kd.R_alloc | apply Kd.R_drewN | apply Kd.R_drew)); exact HO111.out) (Kd.R_base ho1) hb); have n2_ := Aside0.mk (Kd.S_mono (Kd.S_told (Kd.S_told (Kd.S_old (by (with_reducible repeat (first | apply Kd.S_alloc | apply Kd.S_drewN | apply Kd.S_drew)); exact HO117.out) hb) (Kd.S_base ho0)) (Kd.R_base ho1)) (fun _ h_ => h_.1)); have n3_ := Aside0.mk (Kd.R_elder' (by (with_reducible repeat (first | apply Kd.R_alloc | apply Kd.R_drewN | apply Kd.R_drew)); exact HO119.out) (Kd.R_base ho1) hb); have n4_ := Aside0.mk (Kd.S_lower (Kd.S_new' (Kd.S_new' (Kd.S_new' (Kd.S_new' ho0 (Kd.S_lt (by (with_reducible repeat (first | apply Kd.S_alloc | apply Kd.S_drewN | apply Kd.S_drew)); exact HO109.out))) (Kd.R_lt (by (with_reducible repeat (first | apply Kd.R_alloc | apply Kd.R_drewN | apply Kd.R_drew)); exact HO111.out))) (Kd.S_lt (by (with_reducible repeat (first | apply Kd.S_alloc | apply Kd.S_drewN | apply Kd.S_drew)); exact HO117.out))) (Kd.R_lt (by (with_reducible repeat (first | apply Kd.R_alloc | apply Kd.R_drewN | apply Kd.R_drew)); exact HO119.out))) (below_size (by repeat (first | (with_reducible first | exact HB.out | apply below_alloc | apply pw_below_drewN | apply below_drew1) | exact HB.out)))); have n5_ := Aside0.mk (Kd.R_lower (Kd.R_new' (Kd.R_new' ho1 (Kd.R_lt (by (with_reducible repeat (first | apply Kd.R_alloc | apply Kd.R_drewN | apply Kd.R_drew)); exact HO111.out))) (Kd.R_lt (by (with_reducible repeat (first | apply Kd.R_alloc | apply Kd.R_drewN | apply Kd.R_drew)); exact HO119.out))) (below_size (by repeat (first | (with_reducible first | exact HB.out | apply below_alloc | apply pw_below_drewN | apply below_drew1) | exact HB.out)))); have n6_ := Aside0.mk (below_step (by repeat (first | (with_reducible first | exact HB.out | apply below_alloc | apply pw_below_drewN | apply below_drew1) | exact HB.out)) hb); clear HO109; clear HO111; clear HO117; clear HO119; clear HB; have HO109 := n0_; have HO111 := n1_; have HO117 := n2_; have HO119 := n3_; have HO125 := n4_; have HO127 := n5_; have HB := n6_; clear n0_ n1_ n2_ n3_ n4_ n5_ n6_; (try clear hb); (try clear hb2); (try clear hk); (try clear hi); (try clear ho0); (try clear ho1)))
                    go_ret
                    exact ⟨by first | rfl | (simp [errW_none, errW_some] <;> rfl) | (simp [*, errW_none, errW_some] <;> rfl), by repeat (first | (with_reducible first | exact HB.out | apply below_alloc | apply pw_below_drewN | apply below_drew1) | exact HB.out)⟩
                · replace c55 := Bool.eq_false_iff.mpr c55
                  subst c55
                  have H1 : (some false) = some r := by rw [if_neg (show ¬ (false = true) by decide)] at H; exact H
                  clear H
                  have H := H1
                  clear H1
                  obtain rfl := Option.some.inj H
                  go_wp2_with (first | ((with_reducible refine gate_callee (f := 11) rfl ?_); refine goesL_ (some 38) rfl rfl Tryd.func11 (by kernel_rfl) rfl #[.string a0] rfl (by (try simp only [List.map_toArray, List.map_cons, List.map_nil]); first | done | rfl | (simp only [List.length_drop, List.length_take]; rfl)) ?_; (with_reducible refine (read_Read.calls a0 t104 t105 t106 t107 _ A8.out).mono ?_); rintro e w63 ⟨v108, v110, rfl, ho0, ho1, hb⟩; refine ⟨_, rfl, ?_⟩; have n0_ := Aside0.mk (Kd.S_lower ho0 (below_size (by repeat (first | (with_reducible first | exact HB.out | apply below_alloc | apply pw_below_drewN | apply below_drew1) | exact HB.out)))); have n1_ := Aside0.mk (Kd.R_lower ho1 (below_size (by repeat (first | (with_reducible first | exact HB.out | apply below_alloc | apply pw_below_drewN | apply below_drew1) | exact HB.out)))); have n2_ := Aside0.mk (below_step (by repeat (first | (with_reducible first | exact HB.out | apply below_alloc | apply pw_below_drewN | apply below_drew1) | exact HB.out)) hb); clear HB; have HO109 := n0_; have HO111 := n1_; have HB := n2_; clear n0_ n1_ n2_; (try clear hb); (try clear hb2); (try clear hk); (try clear hi); (try clear ho0); (try clear ho1)) | ((with_reducible refine gate_callee (f := 11) rfl ?_); refine goesL_ (some 45) rfl rfl Tryd.func11 (by kernel_rfl) rfl #[.string a1] rfl (by (try simp only [List.map_toArray, List.map_cons, List.map_nil]); first | done | rfl | (simp only [List.length_drop, List.length_take]; rfl)) ?_; (with_reducible refine (read_Read.calls a1 t112 t113 t114 t115 _ A9.out).mono ?_); rintro e w64 ⟨v116, v118, rfl, ho0, ho1, hb⟩; refine ⟨_, rfl, ?_⟩; have n0_ := Aside0.mk (Kd.S_mono (Kd.S_told (Kd.S_told (Kd.S_old (by (with_reducible repeat (first | apply Kd.S_alloc | apply Kd.S_drewN | apply Kd.S_drew)); exact HO109.out) hb) (Kd.S_base ho0)) (Kd.R_base ho1)) (fun _ h_ => h_.1)); have n1_ := Aside0.mk (Kd.R_elder' (by (with_reducible repeat (first | apply Kd.R_alloc | apply Kd.R_drewN | apply Kd.R_drew)); exact HO111.out) (Kd.R_base ho1) hb); have n2_ := Aside0.mk (Kd.S_lower (Kd.S_new' (Kd.S_new' ho0 (Kd.S_lt (by (with_reducible repeat (first | apply Kd.S_alloc | apply Kd.S_drewN | apply Kd.S_drew)); exact HO109.out))) (Kd.R_lt (by (with_reducible repeat (first | apply Kd.R_alloc | apply Kd.R_drewN | apply Kd.R_drew)); exact HO111.out))) (below_size (by repeat (first | (with_reducible first | exact HB.out | apply below_alloc | apply pw_below_drewN | apply below_drew1) | exact HB.out)))); have n3_ := Aside0.mk (Kd.R_lower (Kd.R_new' ho1 (Kd.R_lt (by (with_reducible repeat (first | apply Kd.R_alloc | apply Kd.R_drewN | apply Kd.R_drew)); exact HO111.out))) (below_size (by repeat (first | (with_reducible first | exact HB.out | apply below_alloc | apply pw_below_drewN | apply below_drew1) | exact HB.out)))); have n4_ := Aside0.mk (below_step (by repeat (first | (with_reducible first | exact HB.out | apply below_alloc | apply pw_below_drewN | apply below_drew1) | exact HB.out)) hb); clear HO109; clear HO111; clear HB; have HO109 := n0_; have HO111 := n1_; have HO117 := n2_; have HO119 := n3_; have HB := n4_; clear n0_ n1_ n2_ n3_ n4_; (try clear hb); (try clear hb2); (try clear hk); (try clear hi); (try clear ho0); (try clear ho1)) | ((with_reducible refine gate_callee (f := 11) rfl ?_); refine goesL_ (some 58) rfl rfl Tryd.func11 (by kernel_rfl) rfl #[.string ((a0 ++ (⟨#[10]⟩ : ByteArray)) ++ a1)] rfl (by (try simp only [List.map_toArray, List.map_cons, List.map_nil]); first | done | rfl | (simp only [List.length_drop, List.length_take]; rfl)) ?_; (with_reducible refine (read_Read.calls ((a0 ++ (⟨#[10]⟩ : ByteArray)) ++ a1) t120 t121 t122 t123 _ A13.out).mono ?_); rintro e w65 ⟨v124, v126, rfl, ho0, ho1, hb⟩; refine ⟨_, rfl, ?_⟩; have n0_ := Aside0.mk (Kd.S_mono (Kd.S_told (Kd.S_told (Kd.S_old (by (with_reducible repeat (first | apply Kd.S_alloc | apply Kd.S_drewN | apply Kd.S_drew)); exact HO109.out) hb) (Kd.S_base ho0)) (Kd.R_base ho1)) (fun _ h_ => h_.1)); have n1_ := Aside0.mk (Kd.R_elder' (by (with_reducible repeat (first | apply Kd.R_alloc | apply Kd.R_drewN | apply Kd.R_drew)); exact HO111.out) (Kd.R_base ho1) hb); have n2_ := Aside0.mk (Kd.S_mono (Kd.S_told (Kd.S_told (Kd.S_old (by (with_reducible repeat (first | apply Kd.S_alloc | apply Kd.S_drewN | apply Kd.S_drew)); exact HO117.out) hb) (Kd.S_base ho0)) (Kd.R_base ho1)) (fun _ h_ => h_.1)); have n3_ := Aside0.mk (Kd.R_elder' (by (with_reducible repeat (first | apply Kd.R_alloc | apply Kd.R_drewN | apply Kd.R_drew)); exact HO119.out) (Kd.R_base ho1) hb); have n4_ := Aside0.mk (Kd.S_lower (Kd.S_new' (Kd.S_new' (Kd.S_new' (Kd.S_new' ho0 (Kd.S_lt (by (with_reducible repeat (first | apply Kd.S_alloc | apply Kd.S_drewN | apply Kd.S_drew)); exact HO109.out))) (Kd.R_lt (by (with_reducible repeat (first | apply Kd.R_alloc | apply Kd.R_drewN | apply Kd.R_drew)); exact HO111.out))) (Kd.S_lt (by (with_reducible repeat (first | apply Kd.S_alloc | apply Kd.S_drewN | apply Kd.S_drew)); exact HO117.out))) (Kd.R_lt (by (with_reducible repeat (first | apply Kd.R_alloc | apply Kd.R_drewN | apply Kd.R_drew)); exact HO119.out))) (below_size (by repeat (first | (with_reducible first | exact HB.out | apply below_alloc | apply pw_below_drewN | apply below_drew1) | exact HB.out)))); have n5_ := Aside0.mk (Kd.R_lower (Kd.R_new' (Kd.R_new' ho1 (Kd.R_lt (by (with_reducible repeat (first | apply Kd.R_alloc | apply Kd.R_drewN | apply Kd.R_drew)); exact HO111.out))) (Kd.R_lt (by (with_reducible repeat (first | apply Kd.R_alloc | apply Kd.R_drewN | apply Kd.R_drew)); exact HO119.out))) (below_size (by repeat (first | (with_reducible first | exact HB.out | apply below_alloc | apply pw_below_drewN | apply below_drew1) | exact HB.out)))); have n6_ := Aside0.mk (below_step (by repeat (first | (with_reducible first | exact HB.out | apply below_alloc | apply pw_below_drewN | apply below_drew1) | exact HB.out)) hb); clear HO109; clear HO111; clear HO117; clear HO119; clear HB; have HO109 := n0_; have HO111 := n1_; have HO117 := n2_; have HO119 := n3_; have HO125 := n4_; have HO127 := n5_; have HB := n6_; clear n0_ n1_ n2_ n3_ n4_ n5_ n6_; (try clear hb); (try clear hb2); (try clear hk); (try clear hi); (try clear ho0); (try clear ho1)))
                  go_ret
                  exact ⟨by first | rfl | (simp [errW_none, errW_some] <;> rfl) | (simp [*, errW_none, errW_some] <;> rfl), by repeat (first | (with_reducible first | exact HB.out | apply below_alloc | apply pw_below_drewN | apply below_drew1) | exact HB.out)⟩
            · rw [if_neg c12] at H
              exact absurd H (by simp)
          · rw [if_neg c11] at H
            exact absurd H (by simp)
        · rw [if_neg c10] at H
          have c10b0 : (t107 == 0) = false := beq_eq_false_iff_ne.mpr c10
          have c10b1 : (t107 != 0) = true := bne_iff_ne.mpr c10
          obtain rfl := Option.some.inj H
          go_wp2_with (first | ((with_reducible refine gate_callee (f := 11) rfl ?_); refine goesL_ (some 38) rfl rfl Tryd.func11 (by kernel_rfl) rfl #[.string a0] rfl (by (try simp only [List.map_toArray, List.map_cons, List.map_nil]); first | done | rfl | (simp only [List.length_drop, List.length_take]; rfl)) ?_; (with_reducible refine (read_Read.calls a0 t104 t105 t106 t107 _ A8.out).mono ?_); rintro e w66 ⟨v108, v110, rfl, ho0, ho1, hb⟩; refine ⟨_, rfl, ?_⟩; have n0_ := Aside0.mk (Kd.S_lower ho0 (below_size (by repeat (first | (with_reducible first | exact HB.out | apply below_alloc | apply pw_below_drewN | apply below_drew1) | exact HB.out)))); have n1_ := Aside0.mk (Kd.R_lower ho1 (below_size (by repeat (first | (with_reducible first | exact HB.out | apply below_alloc | apply pw_below_drewN | apply below_drew1) | exact HB.out)))); have n2_ := Aside0.mk (below_step (by repeat (first | (with_reducible first | exact HB.out | apply below_alloc | apply pw_below_drewN | apply below_drew1) | exact HB.out)) hb); clear HB; have HO109 := n0_; have HO111 := n1_; have HB := n2_; clear n0_ n1_ n2_; (try clear hb); (try clear hb2); (try clear hk); (try clear hi); (try clear ho0); (try clear ho1)) | ((with_reducible refine gate_callee (f := 11) rfl ?_); refine goesL_ (some 45) rfl rfl Tryd.func11 (by kernel_rfl) rfl #[.string a1] rfl (by (try simp only [List.map_toArray, List.map_cons, List.map_nil]); first | done | rfl | (simp only [List.length_drop, List.length_take]; rfl)) ?_; (with_reducible refine (read_Read.calls a1 t112 t113 t114 t115 _ A9.out).mono ?_); rintro e w67 ⟨v116, v118, rfl, ho0, ho1, hb⟩; refine ⟨_, rfl, ?_⟩; have n0_ := Aside0.mk (Kd.S_mono (Kd.S_told (Kd.S_told (Kd.S_old (by (with_reducible repeat (first | apply Kd.S_alloc | apply Kd.S_drewN | apply Kd.S_drew)); exact HO109.out) hb) (Kd.S_base ho0)) (Kd.R_base ho1)) (fun _ h_ => h_.1)); have n1_ := Aside0.mk (Kd.R_elder' (by (with_reducible repeat (first | apply Kd.R_alloc | apply Kd.R_drewN | apply Kd.R_drew)); exact HO111.out) (Kd.R_base ho1) hb); have n2_ := Aside0.mk (Kd.S_lower (Kd.S_new' (Kd.S_new' ho0 (Kd.S_lt (by (with_reducible repeat (first | apply Kd.S_alloc | apply Kd.S_drewN | apply Kd.S_drew)); exact HO109.out))) (Kd.R_lt (by (with_reducible repeat (first | apply Kd.R_alloc | apply Kd.R_drewN | apply Kd.R_drew)); exact HO111.out))) (below_size (by repeat (first | (with_reducible first | exact HB.out | apply below_alloc | apply pw_below_drewN | apply below_drew1) | exact HB.out)))); have n3_ := Aside0.mk (Kd.R_lower (Kd.R_new' ho1 (Kd.R_lt (by (with_reducible repeat (first | apply Kd.R_alloc | apply Kd.R_drewN | apply Kd.R_drew)); exact HO111.out))) (below_size (by repeat (first | (with_reducible first | exact HB.out | apply below_alloc | apply pw_below_drewN | apply below_drew1) | exact HB.out)))); have n4_ := Aside0.mk (below_step (by repeat (first | (with_reducible first | exact HB.out | apply below_alloc | apply pw_below_drewN | apply below_drew1) | exact HB.out)) hb); clear HO109; clear HO111; clear HB; have HO109 := n0_; have HO111 := n1_; have HO117 := n2_; have HO119 := n3_; have HB := n4_; clear n0_ n1_ n2_ n3_ n4_; (try clear hb); (try clear hb2); (try clear hk); (try clear hi); (try clear ho0); (try clear ho1)))
          go_ret
          exact ⟨by first | rfl | (simp [errW_none, errW_some] <;> rfl) | (simp [*, errW_none, errW_some] <;> rfl), by repeat (first | (with_reducible first | exact HB.out | apply below_alloc | apply pw_below_drewN | apply below_drew1) | exact HB.out)⟩

/-- THE ONE PURE STATEMENT of eddywheellaw06_ReadJoins: yours. -/
def eddywheellaw06_ReadJoins.Pure : Prop := ∀ (a0 : ByteArray) (a1 : ByteArray), a0.size ≤ 140737488351232 → a1.size ≤ 140737488351232 → ∃ k, eddywheellaw06_ReadJoins.f k a0 a1 = some true
theorem eddywheellaw06_ReadJoins.walk (P : eddywheellaw06_ReadJoins.Pure) (a0 : ByteArray) (a1 : ByteArray) (w : World) (w0 : a0.size ≤ 140737488351232) (w1 : a1.size ≤ 140737488351232) (hV : Aside0 (Go.Proofs.YthfbkhjcnfjmmaaDoor.LexC.Vars w)) :
    Calls Tryd.prog 4 #[.string a0, .string a1] w fun e w' => e = .returned (.bool true) ∧ Below w.heap.size w w' := by
  obtain ⟨k, h⟩ := P a0 a1 w0 w1
  refine (eddywheellaw06_ReadJoins.calls k a0 a1 true w h).mono ?_
  rintro e w' ⟨rfl, hd⟩
  exact ⟨rfl, hd⟩

end Go.Proofs.YthfbkhjcnfjmmaaDoor.PReads

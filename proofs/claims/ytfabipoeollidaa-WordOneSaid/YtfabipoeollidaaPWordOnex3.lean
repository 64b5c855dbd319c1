-- PRINTED BY print.sh 35421559b90ae4d0a3588c463048766b98c2df88dd9212a6774a882060cdf62d: not written by this session
import Derived.Test.YtfabipoeollidaaPWordOnex0
import Derived.Test.YtfabipoeollidaaPWordOnex1
import Derived.Test.YtfabipoeollidaaPWordOnex2
namespace Go.Proofs.Ytfabipoeollidaa.PWordOne
open Go.RowKit Go.Proofs.YtfabipoeollidaaW.PrintWords Go.Proofs.YtfabipoeollidaaW.PrintLast Go.Proofs.YtfabipoeollidaaW.PrintMore
attribute [local go_sem] max2_int min2_int max_two min_two max_three min_three max_four min_four   -- for this text's walks alone
set_option linter.unusedVariables false
set_option linter.unusedSimpArgs false

/-! ### eddywheellaw01_WordOne: function 9 -/
mutual
def eddywheellaw01_WordOne.j0 : Nat → Int → Int → Bool → Int → Option (Bool)
  | 0, _, _, _, _ => none
  | k + 1, x0, x1, x5, x6 => (some (([1, 3, 4] : List Int) : List Int)).bind fun y146 => (eddywheellaw01_WordOne.l0 k x0 x1 x5 x6 y146 (y146.length : Int) 0)
def eddywheellaw01_WordOne.l0 : Nat → Int → Int → Bool → Int → List Int → Int → Int → Option (Bool)
  | 0, _, _, _, _, _, _, _ => none
  | k + 1, x0, x1, x5, x6, x48, x49, x50 => if x50 < x49 then (if 0 ≤ x50 then (if x50 < (x48.length : Int) then ((word_To.f k (rd x48 x50) x0).bind fun bt150 => (if bt150.2 = true then ((word_Of.f k (rd x48 x50) bt150.1).bind fun bt152 => (if bt152.2 = 0 then (if bt152.1 = x0 then (eddywheellaw01_WordOne.j2 k x0 x1 x5 (wrap64 (x6 + 1)) (rd x48 x50) x48 x49 x50) else (some false)) else (some false))) else (eddywheellaw01_WordOne.j2 k x0 x1 x5 x6 (rd x48 x50) x48 x49 x50))) else (none)) else (none)) else ((some (([2, 10, 18, 26] : List Int) : List Int)).bind fun y159 => (eddywheellaw01_WordOne.l1 k x0 x1 x5 x6 y159 (y159.length : Int) 0))
def eddywheellaw01_WordOne.j2 : Nat → Int → Int → Bool → Int → Int → List Int → Int → Int → Option (Bool)
  | 0, _, _, _, _, _, _, _, _ => none
  | k + 1, x0, x1, x5, x6, x12, x48, x49, x50 => (word_Of.f k x12 x1).bind fun bt154 => (if bt154.2 = 0 then ((word_To.f k x12 bt154.1).bind fun bt156 => (if bt156.2 = true then (if bt156.1 = x1 then ((word_May.f k bt154.1).bind fun t158 => (if t158 = true then (eddywheellaw01_WordOne.l0 k x0 x1 x5 x6 x48 x49 (wrap64 (x50 + 1))) else (some false))) else (some false)) else (some false))) else (eddywheellaw01_WordOne.l0 k x0 x1 x5 x6 x48 x49 (wrap64 (x50 + 1))))
def eddywheellaw01_WordOne.l1 : Nat → Int → Int → Bool → Int → List Int → Int → Int → Option (Bool)
  | 0, _, _, _, _, _, _, _ => none
  | k + 1, x0, x1, x5, x6, x103, x104, x105 => if x105 < x104 then (if 0 ≤ x105 then (if x105 < (x103.length : Int) then (if (rd x103 x105) = x0 then (eddywheellaw01_WordOne.l1 k x0 x1 x5 (wrap64 (x6 + 1)) x103 x104 (wrap64 (x105 + 1))) else (eddywheellaw01_WordOne.l1 k x0 x1 x5 x6 x103 x104 (wrap64 (x105 + 1)))) else (none)) else (none)) else ((word_Int.f x1).bind fun bt163 => ((word_ToInt.f bt163.1).bind fun bt165 => (if x5 = true then ((word_May.f k x0).bind fun t167 => (if ((x6 == 1) == t167) = true then (if x6 ≤ 1 then (if bt163.2 = 0 then (if bt165.2 = true then (some (bt165.1 == x1)) else (some false)) else (some true)) else (some false)) else (some false))) else (some false))))
end
def eddywheellaw01_WordOne.f (k : Nat) (a0 : Int) (a1 : Int) : Option (Bool) := (eddywheellaw01_shown.f k).bind fun t141 => ((word_ToInt.f a0).bind fun bt142 => (if bt142.2 = true then ((word_Int.f bt142.1).bind fun bt144 => (if bt144.2 = 0 then (if bt144.1 = a0 then (eddywheellaw01_WordOne.j0 k a0 a1 t141 (0 + 1)) else (some false)) else (some false))) else (eddywheellaw01_WordOne.j0 k a0 a1 t141 0)))
theorem eddywheellaw01_WordOne.mono_l : ∀ k, (∀ y0 y1 y2 y3, LeO (eddywheellaw01_WordOne.j0 k y0 y1 y2 y3) (eddywheellaw01_WordOne.j0 (k + 1) y0 y1 y2 y3)) ∧ (∀ y0 y1 y2 y3 y4 y5 y6, LeO (eddywheellaw01_WordOne.l0 k y0 y1 y2 y3 y4 y5 y6) (eddywheellaw01_WordOne.l0 (k + 1) y0 y1 y2 y3 y4 y5 y6)) ∧ (∀ y0 y1 y2 y3 y4 y5 y6 y7, LeO (eddywheellaw01_WordOne.j2 k y0 y1 y2 y3 y4 y5 y6 y7) (eddywheellaw01_WordOne.j2 (k + 1) y0 y1 y2 y3 y4 y5 y6 y7)) ∧ (∀ y0 y1 y2 y3 y4 y5 y6, LeO (eddywheellaw01_WordOne.l1 k y0 y1 y2 y3 y4 y5 y6) (eddywheellaw01_WordOne.l1 (k + 1) y0 y1 y2 y3 y4 y5 y6))
  | 0 => ⟨fun _ _ _ _ r h => by simp [eddywheellaw01_WordOne.j0] at h, fun _ _ _ _ _ _ _ r h => by simp [eddywheellaw01_WordOne.l0] at h, fun _ _ _ _ _ _ _ _ r h => by simp [eddywheellaw01_WordOne.j2] at h, fun _ _ _ _ _ _ _ r h => by simp [eddywheellaw01_WordOne.l1] at h⟩
  | k + 1 => by
    obtain ⟨ih0, ih1, ih2, ih3⟩ := eddywheellaw01_WordOne.mono_l k
    refine ⟨?_, ?_, ?_, ?_⟩
    · intro y0 y1 y2 y3
      unfold eddywheellaw01_WordOne.j0
      repeat' first
      | (with_reducible exact ih0 _ _ _ _)
      | (with_reducible exact ih1 _ _ _ _ _ _ _)
      | (with_reducible exact ih2 _ _ _ _ _ _ _ _)
      | (with_reducible exact ih3 _ _ _ _ _ _ _)
      | (with_reducible exact eddywheellaw01_shown.mono _)
      | (with_reducible exact word_May.mono _ _)
      | (with_reducible exact word_Of.mono _ _ _)
      | (with_reducible exact word_To.mono _ _ _)
      | (with_reducible exact LeO.refl _)
      | (with_reducible exact LeO.none _)
      | (with_reducible refine LeO.ite ?_ ?_)
      | (with_reducible refine LeO.bind ?_ (fun _ => ?_))
      | exact ih0 _ _ _ _
      | exact ih1 _ _ _ _ _ _ _
      | exact ih2 _ _ _ _ _ _ _ _
      | exact ih3 _ _ _ _ _ _ _
      | exact eddywheellaw01_shown.mono _
      | exact word_May.mono _ _
      | exact word_Of.mono _ _ _
      | exact word_To.mono _ _ _
      | exact LeO.none _
      | refine LeO.ite ?_ ?_
      | refine LeO.bind ?_ (fun _ => ?_)
    · intro y0 y1 y2 y3 y4 y5 y6
      unfold eddywheellaw01_WordOne.l0
      repeat' first
      | (with_reducible exact ih0 _ _ _ _)
      | (with_reducible exact ih1 _ _ _ _ _ _ _)
      | (with_reducible exact ih2 _ _ _ _ _ _ _ _)
      | (with_reducible exact ih3 _ _ _ _ _ _ _)
      | (with_reducible exact eddywheellaw01_shown.mono _)
      | (with_reducible exact word_May.mono _ _)
      | (with_reducible exact word_Of.mono _ _ _)
      | (with_reducible exact word_To.mono _ _ _)
      | (with_reducible exact LeO.refl _)
      | (with_reducible exact LeO.none _)
      | (with_reducible refine LeO.ite ?_ ?_)
      | (with_reducible refine LeO.bind ?_ (fun _ => ?_))
      | exact ih0 _ _ _ _
      | exact ih1 _ _ _ _ _ _ _
      | exact ih2 _ _ _ _ _ _ _ _
      | exact ih3 _ _ _ _ _ _ _
      | exact eddywheellaw01_shown.mono _
      | exact word_May.mono _ _
      | exact word_Of.mono _ _ _
      | exact word_To.mono _ _ _
      | exact LeO.none _
      | refine LeO.ite ?_ ?_
      | refine LeO.bind ?_ (fun _ => ?_)
    · intro y0 y1 y2 y3 y4 y5 y6 y7
      unfold eddywheellaw01_WordOne.j2
      repeat' first
      | (with_reducible exact ih0 _ _ _ _)
      | (with_reducible exact ih1 _ _ _ _ _ _ _)
      | (with_reducible exact ih2 _ _ _ _ _ _ _ _)
      | (with_reducible exact ih3 _ _ _ _ _ _ _)
      | (with_reducible exact eddywheellaw01_shown.mono _)
      | (with_reducible exact word_May.mono _ _)
      | (with_reducible exact word_Of.mono _ _ _)
      | (with_reducible exact word_To.mono _ _ _)
      | (with_reducible exact LeO.refl _)
      | (with_reducible exact LeO.none _)
      | (with_reducible refine LeO.ite ?_ ?_)
      | (with_reducible refine LeO.bind ?_ (fun _ => ?_))
      | exact ih0 _ _ _ _
      | exact ih1 _ _ _ _ _ _ _
      | exact ih2 _ _ _ _ _ _ _ _
      | exact ih3 _ _ _ _ _ _ _
      | exact eddywheellaw01_shown.mono _
      | exact word_May.mono _ _
      | exact word_Of.mono _ _ _
      | exact word_To.mono _ _ _
      | exact LeO.none _
      | refine LeO.ite ?_ ?_
      | refine LeO.bind ?_ (fun _ => ?_)
    · intro y0 y1 y2 y3 y4 y5 y6
      unfold eddywheellaw01_WordOne.l1
      repeat' first
      | (with_reducible exact ih0 _ _ _ _)
      | (with_reducible exact ih1 _ _ _ _ _ _ _)
      | (with_reducible exact ih2 _ _ _ _ _ _ _ _)
      | (with_reducible exact ih3 _ _ _ _ _ _ _)
      | (with_reducible exact eddywheellaw01_shown.mono _)
      | (with_reducible exact word_May.mono _ _)
      | (with_reducible exact word_Of.mono _ _ _)
      | (with_reducible exact word_To.mono _ _ _)
      | (with_reducible exact LeO.refl _)
      | (with_reducible exact LeO.none _)
      | (with_reducible refine LeO.ite ?_ ?_)
      | (with_reducible refine LeO.bind ?_ (fun _ => ?_))
      | exact ih0 _ _ _ _
      | exact ih1 _ _ _ _ _ _ _
      | exact ih2 _ _ _ _ _ _ _ _
      | exact ih3 _ _ _ _ _ _ _
      | exact eddywheellaw01_shown.mono _
      | exact word_May.mono _ _
      | exact word_Of.mono _ _ _
      | exact word_To.mono _ _ _
      | exact LeO.none _
      | refine LeO.ite ?_ ?_
      | refine LeO.bind ?_ (fun _ => ?_)
theorem eddywheellaw01_WordOne.mono : ∀ a0 a1 k, LeO (eddywheellaw01_WordOne.f k a0 a1) (eddywheellaw01_WordOne.f (k + 1) a0 a1) := by
  intro a0 a1 k
  obtain ⟨ih0, ih1, ih2, ih3⟩ := eddywheellaw01_WordOne.mono_l k
  unfold eddywheellaw01_WordOne.f
  repeat' first
      | (with_reducible exact ih0 _ _ _ _)
      | (with_reducible exact ih1 _ _ _ _ _ _ _)
      | (with_reducible exact ih2 _ _ _ _ _ _ _ _)
      | (with_reducible exact ih3 _ _ _ _ _ _ _)
      | (with_reducible exact eddywheellaw01_shown.mono _)
      | (with_reducible exact word_May.mono _ _)
      | (with_reducible exact word_Of.mono _ _ _)
      | (with_reducible exact word_To.mono _ _ _)
      | (with_reducible exact LeO.refl _)
      | (with_reducible exact LeO.none _)
      | (with_reducible refine LeO.ite ?_ ?_)
      | (with_reducible refine LeO.bind ?_ (fun _ => ?_))
      | exact ih0 _ _ _ _
      | exact ih1 _ _ _ _ _ _ _
      | exact ih2 _ _ _ _ _ _ _ _
      | exact ih3 _ _ _ _ _ _ _
      | exact eddywheellaw01_shown.mono _
      | exact word_May.mono _ _
      | exact word_Of.mono _ _ _
      | exact word_To.mono _ _ _
      | exact LeO.none _
      | refine LeO.ite ?_ ?_
      | refine LeO.bind ?_ (fun _ => ?_)
set_option maxHeartbeats 8000000 in
set_option maxRecDepth 100000 in
theorem eddywheellaw01_WordOne.calls (k : Nat) (a0 : Int) (a1 : Int) (r : Bool) (w : World) (h : eddywheellaw01_WordOne.f k a0 a1 = some r) :
    Calls Try.prog 9 #[.int .u64 a0, .int .i64 a1] w fun e w' => e = .returned (.bool r) ∧ Below w.heap.size w w' := by
  have HB := Aside0.mk (Below.refl w.heap.size w)
  have H : ((eddywheellaw01_shown.f k).bind fun t141 => ((word_ToInt.f a0).bind fun bt142 => (if bt142.2 = true then ((word_Int.f bt142.1).bind fun bt144 => (if bt144.2 = 0 then (if bt144.1 = a0 then (eddywheellaw01_WordOne.j0 k a0 a1 t141 (0 + 1)) else (some false)) else (some false))) else (eddywheellaw01_WordOne.j0 k a0 a1 t141 0)))) = some r := h
  clear h
  replace H := Option.bind_eq_some_iff.mp H
  obtain ⟨t141, A30, H⟩ := H
  replace H : ((word_ToInt.f a0).bind fun bt142 => (if bt142.2 = true then ((word_Int.f bt142.1).bind fun bt144 => (if bt144.2 = 0 then (if bt144.1 = a0 then (eddywheellaw01_WordOne.j0 k a0 a1 t141 (0 + 1)) else (some false)) else (some false))) else (eddywheellaw01_WordOne.j0 k a0 a1 t141 0))) = some r := H
  have A3 := Aside0.mk A30
  clear A30
  replace H := Option.bind_eq_some_iff.mp H
  obtain ⟨⟨t142, t143⟩, A40, H⟩ := H
  replace H : (if t143 = true then ((word_Int.f t142).bind fun bt144 => (if bt144.2 = 0 then (if bt144.1 = a0 then (eddywheellaw01_WordOne.j0 k a0 a1 t141 (0 + 1)) else (some false)) else (some false))) else (eddywheellaw01_WordOne.j0 k a0 a1 t141 0)) = some r := H
  have A4 := Aside0.mk A40
  clear A40
  have HC5 := Aside0.mk H
  clear H
  go_enter Try.func9, Try.ntmps9
  go_upto_if 33 with (first | ((with_reducible refine gate_callee (f := 13) rfl ?_); refine goesL_ (some 27) rfl rfl Try.func13 (by kernel_rfl) rfl #[] rfl (by (try simp only [List.map_toArray, List.map_cons, List.map_nil]); first | done | rfl | (simp only [List.length_drop, List.length_take]; rfl)) ?_; (with_reducible refine (eddywheellaw01_shown.calls k  t141 _ A3.out).mono ?_); rintro e w6 ⟨rfl, hb⟩; refine ⟨_, rfl, ?_⟩; have n0_ := Aside0.mk (below_step (by repeat (first | (with_reducible first | exact HB.out | apply below_alloc | apply pw_below_drewN | apply below_drew1) | exact HB.out)) hb); clear HB; have HB := n0_; clear n0_; (try clear hb); (try clear hb2); (try clear hk); (try clear hi)) | ((with_reducible refine gate_callee (f := 15) rfl ?_); refine goesL_ (some 30) rfl rfl Try.func15 (by kernel_rfl) rfl #[.int .u64 a0] rfl (by (try simp only [List.map_toArray, List.map_cons, List.map_nil]); first | done | rfl | (simp only [List.length_drop, List.length_take]; rfl)) ?_; (with_reducible refine (word_ToInt.calls a0 t142 t143 _ A4.out).mono ?_); rintro e w' ⟨rfl, ⟨nd, rfl⟩⟩; refine ⟨_, rfl, ?_⟩))
  (try simp only [Act.put, List.setIfInBounds_toArray, List.set_cons_zero, List.set_cons_succ])
  go_cut [6] (fun v6 wc => ∃ (kq : Nat) (x6_4 : Int), v6 = .int .i64 x6_4 ∧ Aside0 (eddywheellaw01_WordOne.j0 kq a0 a1 t141 x6_4 = some r) ∧ Aside0 (kq ≤ k) ∧ Aside0 (Below w.heap.size w wc))
  case first =>
    have H := HC5.out
    clear HC5
    by_cases c7 : t143 = true
    · subst c7
      have H1 : ((word_Int.f t142).bind fun bt144 => (if bt144.2 = 0 then (if bt144.1 = a0 then (eddywheellaw01_WordOne.j0 k a0 a1 t141 (0 + 1)) else (some false)) else (some false))) = some r := by rw [if_pos rfl] at H; exact H
      clear H
      have H := H1
      clear H1
      replace H := Option.bind_eq_some_iff.mp H
      obtain ⟨⟨t144, t145⟩, A80, H⟩ := H
      replace H : (if t145 = 0 then (if t144 = a0 then (eddywheellaw01_WordOne.j0 k a0 a1 t141 (0 + 1)) else (some false)) else (some false)) = some r := H
      have A8 := Aside0.mk A80
      clear A80
      by_cases c9 : t145 = 0
      · rw [if_pos c9] at H
        have c9b0 : (t145 == 0) = true := beq_iff_eq.mpr c9
        have c9b1 : (t145 != 0) = false := bne_eq_false_iff_eq.mpr c9
        clear c9
        (first | rw [c9b0] | (simp only [i64_w, i32_w]; rw [c9b0]) | skip)
        by_cases c10 : t144 = a0
        · rw [if_pos c10] at H
          have c10b0 : (t144 == a0) = true := beq_iff_eq.mpr c10
          have c10b1 : (t144 != a0) = false := bne_eq_false_iff_eq.mpr c10
          clear c10
          have H' := Aside0.mk H
          clear H
          go_wp2_with (first | ((with_reducible refine gate_callee (f := 14) rfl ?_); refine goesL_ (some 38) rfl rfl Try.func14 (by kernel_rfl) rfl #[.int .i64 t142] rfl (by (try simp only [List.map_toArray, List.map_cons, List.map_nil]); first | done | rfl | (simp only [List.length_drop, List.length_take]; rfl)) ?_; (with_reducible refine (word_Int.calls t142 t144 t145 _ A8.out).mono ?_); rintro e w' ⟨rfl, ⟨nd, rfl⟩⟩; refine ⟨_, rfl, ?_⟩))
          go_meet
          case rel => exact ⟨_, (0 + 1), (by first | rfl | (simp; done) | (simp [*]; done)), H', ⟨by first | omega | exact Nat.le_refl _⟩, ⟨by repeat (first | (with_reducible first | exact HB.out | apply below_alloc | apply pw_below_drewN | apply below_drew1) | exact HB.out)⟩⟩
        · rw [if_neg c10] at H
          have c10b0 : (t144 == a0) = false := beq_eq_false_iff_ne.mpr c10
          have c10b1 : (t144 != a0) = true := bne_iff_ne.mpr c10
          obtain rfl := Option.some.inj H
          go_wp2_with (first | ((with_reducible refine gate_callee (f := 14) rfl ?_); refine goesL_ (some 38) rfl rfl Try.func14 (by kernel_rfl) rfl #[.int .i64 t142] rfl (by (try simp only [List.map_toArray, List.map_cons, List.map_nil]); first | done | rfl | (simp only [List.length_drop, List.length_take]; rfl)) ?_; (with_reducible refine (word_Int.calls t142 t144 t145 _ A8.out).mono ?_); rintro e w' ⟨rfl, ⟨nd, rfl⟩⟩; refine ⟨_, rfl, ?_⟩))
          go_ret
          exact ⟨by first | rfl | (simp [errW_none, errW_some] <;> rfl) | (simp [*, errW_none, errW_some] <;> rfl), by repeat (first | (with_reducible first | exact HB.out | apply below_alloc | apply pw_below_drewN | apply below_drew1) | exact HB.out)⟩
      · rw [if_neg c9] at H
        have c9b0 : (t145 == 0) = false := beq_eq_false_iff_ne.mpr c9
        have c9b1 : (t145 != 0) = true := bne_iff_ne.mpr c9
        (first | rw [c9b0] | (simp only [i64_w, i32_w]; rw [c9b0]) | skip)
        obtain rfl := Option.some.inj H
        go_wp2_with (first | ((with_reducible refine gate_callee (f := 14) rfl ?_); refine goesL_ (some 38) rfl rfl Try.func14 (by kernel_rfl) rfl #[.int .i64 t142] rfl (by (try simp only [List.map_toArray, List.map_cons, List.map_nil]); first | done | rfl | (simp only [List.length_drop, List.length_take]; rfl)) ?_; (with_reducible refine (word_Int.calls t142 t144 t145 _ A8.out).mono ?_); rintro e w' ⟨rfl, ⟨nd, rfl⟩⟩; refine ⟨_, rfl, ?_⟩))
        go_ret
        exact ⟨by first | rfl | (simp [errW_none, errW_some] <;> rfl) | (simp [*, errW_none, errW_some] <;> rfl), by repeat (first | (with_reducible first | exact HB.out | apply below_alloc | apply pw_below_drewN | apply below_drew1) | exact HB.out)⟩
    · replace c7 := Bool.eq_false_iff.mpr c7
      subst c7
      have H1 : (eddywheellaw01_WordOne.j0 k a0 a1 t141 0) = some r := by rw [if_neg (show ¬ (false = true) by decide)] at H; exact H
      clear H
      have H := H1
      clear H1
      have H' := Aside0.mk H
      clear H
      go_wp2
      go_meet
      case rel => exact ⟨_, (0), (by first | rfl | (simp; done) | (simp [*]; done)), H', ⟨by first | omega | exact Nat.le_refl _⟩, ⟨by repeat (first | (with_reducible first | exact HB.out | apply below_alloc | apply pw_below_drewN | apply below_drew1) | exact HB.out)⟩⟩
  case rest =>
    clear HC5
    try clear c1
    try clear p2
    try clear c7
    try clear c9
    try clear c9b0
    try clear c9b1
    try clear c10
    try clear c10b0
    try clear c10b1
    obtain ⟨kq, x6_4, rfl, HA, HJ4, HB⟩ := hcut
    cases kq with
    | zero => exact absurd HA.out (by simp [eddywheellaw01_WordOne.j0])
    | succ kj4 =>
      have H := HA.out
      clear HA
      simp only [eddywheellaw01_WordOne.j0] at H
      obtain ⟨y146, hy146⟩ : ∃ y_ : List Int, y_ = (([1, 3, 4] : List Int)) := ⟨_, rfl⟩
      replace H : (eddywheellaw01_WordOne.l0 kj4 a0 a1 t141 x6_4 y146 (y146.length : Int) 0) = some r := by first | (rw [hy146]; with_reducible exact H) | (have H2_ := (Option.bind_some _ _).symm.trans H; rw [hy146]; with_reducible exact H2_) | (have H2_ := (Option.bind_some _ _).symm.trans H; with_reducible exact H2_) | with_reducible exact H | (rw [hy146]; exact H) | exact H
      have Ny146 := Aside0.mk hy146
      clear hy146
      have H' := Aside0.mk H
      clear H
      go_wp2_with (first | ((with_reducible refine gate_dst (N := 48) rfl ?_); refine Kd.R_lit (Kd.int .i64) _ 3 ?hg (N := 48) ?hd (xs := ([1, 3, 4] : List Int)) (inner := [.int .i64 1, .int .i64 3, .int .i64 4]) (ok := fun _ => True) (okp := fun _ => True) ?hr ?hp (fun _ hk => hk) trivial (Below.refl _ _) (Nat.le_refl _) (by simp) ?_; (case hd => rfl); (case hg => rfl); (case hr => first | (go_simp; done) | (go_simp; rfl)); (case hp => exact (Reps.one (show Kd.M (Kd.int .i64) _ _ _ 1 [.int .i64 1] from rfl) (Reps.one (show Kd.M (Kd.int .i64) _ _ _ 3 [.int .i64 3] from rfl) (Reps.one (show Kd.M (Kd.int .i64) _ _ _ 4 [.int .i64 4] from rfl) (Reps.none _ _))))); intro v147 w11 ho12 hb hg_ hnew_; clear hg_ hnew_; (first | rw [← Ny146.out] at ho12 | (simp only [Int.reduceToNat] at ho12; rw [← Ny146.out] at ho12)); have n0_ := Aside0.mk (Kd.R_lower ho12 (below_size (by repeat (first | (with_reducible first | exact HB.out | apply below_alloc | apply pw_below_drewN | apply below_drew1) | exact HB.out)))); have n1_ := Aside0.mk (below_step (by repeat (first | (with_reducible first | exact HB.out | apply below_alloc | apply pw_below_drewN | apply below_drew1) | exact HB.out)) hb); clear HB; have HO148 := n0_; have HB := n1_; clear n0_ n1_; clear hb ho12; obtain ⟨Ao13, co13, eo13⟩ := Kd.R_slice HO148.out; subst eo13))
      go_loopg [6, 50] kj4 (fun kq v6 v50 w' => ∃ (x6_2 : Int) (x50_2 : Int), v6 = .int .i64 x6_2 ∧ v50 = .int .i64 x50_2 ∧ Aside0 (eddywheellaw01_WordOne.l0 kq a0 a1 t141 x6_2 y146 (y146.length : Int) x50_2 = some r) ∧ Aside0 (kq ≤ kj4) ∧ Aside0 (Kd.R (Kd.int .i64) 3 w' w.heap.size (fun _ => True) (.slice Ao13 y146.length co13) y146) ∧ Aside0 (Below w.heap.size w w'))
      case atStart => exact ⟨(x6_4), (0), (by first | rfl | (simp; done) | (simp [*]; done)), (by first | rfl | (simp; done) | (simp [*]; done)), H', ⟨Nat.le_refl _⟩, ⟨by (with_reducible repeat (first | apply Kd.R_alloc | apply Kd.R_drewN | apply Kd.R_drew)); exact HO148.out⟩, ⟨by repeat (first | (with_reducible first | exact HB.out | apply below_alloc | apply pw_below_drewN | apply below_drew1) | exact HB.out)⟩⟩
      case round =>
        clear H'
        try clear c1
        try clear p2
        try clear c7
        try clear c9
        try clear c9b0
        try clear c9b1
        try clear c10
        try clear c10b0
        try clear c10b1
        try clear c13
        try clear p2
        obtain ⟨x6_2, x50_2, rfl, rfl, HA, HK2, HO_48, HB⟩ := hrel
        cases gk with
        | zero => exact absurd HA.out (by simp [eddywheellaw01_WordOne.l0])
        | succ k2 =>
          have H := HA.out
          clear HA
          simp only [eddywheellaw01_WordOne.l0] at H
          by_cases c14 : x50_2 < (y146.length : Int)
          · rw [if_pos c14] at H
            have c14b0 : decide (x50_2 < (y146.length : Int)) = true := decide_eq_true c14
            clear c14
            by_cases c15 : 0 ≤ x50_2
            · rw [if_pos c15] at H
              have c15b0 : decide (0 ≤ x50_2) = true := decide_eq_true c15
              clear c15
              by_cases c16 : x50_2 < (y146.length : Int)
              · rw [if_pos c16] at H
                have c16b0 : decide (x50_2 < (y146.length : Int)) = true := decide_eq_true c16
                clear c16
                replace H := Option.bind_eq_some_iff.mp H
                obtain ⟨⟨t150, t151⟩, A170, H⟩ := H
                replace H : (if t151 = true then ((word_Of.f k2 (rd y146 x50_2) t150).bind fun bt152 => (if bt152.2 = 0 then (if bt152.1 = a0 then (eddywheellaw01_WordOne.j2 k2 a0 a1 t141 (wrap64 (x6_2 + 1)) (rd y146 x50_2) y146 (y146.length : Int) x50_2) else (some false)) else (some false))) else (eddywheellaw01_WordOne.j2 k2 a0 a1 t141 x6_2 (rd y146 x50_2) y146 (y146.length : Int) x50_2)) = some r := H
                have A17 := Aside0.mk A170
                clear A170
                have HC18 := Aside0.mk H
                clear H
                have p149 : 0 ≤ (x50_2 : Int) := of_decide_eq_true (by first | (with_reducible assumption) | assumption)
                have q149 : x50_2 < (y146.length : Int) := of_decide_eq_true (by first | (with_reducible assumption) | assumption)
                obtain ⟨ad149, e149, hx149_0⟩ := Kd.at_int (Kd.R_reads' HO_48.out).2.2 x50_2 p149 q149
                cases e149
                replace p149 := eq_true p149
                replace q149 := eq_true q149
                go_upto_if 60 with (first | ((with_reducible refine gate_callee (f := 23) rfl ?_); refine goesL_ (some 57) rfl rfl Try.func23 (by kernel_rfl) rfl #[.int .i64 (rd y146 x50_2), .int .u64 a0] rfl (by (try simp only [List.map_toArray, List.map_cons, List.map_nil]); first | done | rfl | (simp only [List.length_drop, List.length_take]; rfl)) ?_; (with_reducible refine (word_To.calls k2 (rd y146 x50_2) a0 t150 t151 _ A17.out).mono ?_); rintro e w' ⟨rfl, ⟨nd, rfl⟩⟩; refine ⟨_, rfl, ?_⟩))
                (try simp only [Act.put, List.setIfInBounds_toArray, List.set_cons_zero, List.set_cons_succ])
                go_cut [6] (fun v6 wc => ∃ (kq : Nat) (x6_17 : Int), v6 = .int .i64 x6_17 ∧ Aside0 (eddywheellaw01_WordOne.j2 kq a0 a1 t141 x6_17 (rd y146 x50_2) y146 (y146.length : Int) x50_2 = some r) ∧ Aside0 (kq ≤ k2) ∧ Aside0 (Kd.R (Kd.int .i64) 3 wc w.heap.size (fun _ => True) (.slice (some ad149) y146.length co13) y146) ∧ Aside0 (Below w.heap.size w wc))
                case first =>
                  have H := HC18.out
                  clear HC18
                  by_cases c19 : t151 = true
                  · subst c19
                    have H1 : ((word_Of.f k2 (rd y146 x50_2) t150).bind fun bt152 => (if bt152.2 = 0 then (if bt152.1 = a0 then (eddywheellaw01_WordOne.j2 k2 a0 a1 t141 (wrap64 (x6_2 + 1)) (rd y146 x50_2) y146 (y146.length : Int) x50_2) else (some false)) else (some false))) = some r := by rw [if_pos rfl] at H; exact H
                    clear H
                    have H := H1
                    clear H1
                    replace H := Option.bind_eq_some_iff.mp H
                    obtain ⟨⟨t152, t153⟩, A200, H⟩ := H
                    replace H : (if t153 = 0 then (if t152 = a0 then (eddywheellaw01_WordOne.j2 k2 a0 a1 t141 (wrap64 (x6_2 + 1)) (rd y146 x50_2) y146 (y146.length : Int) x50_2) else (some false)) else (some false)) = some r := H
                    have A20 := Aside0.mk A200
                    clear A200
                    by_cases c21 : t153 = 0
                    · rw [if_pos c21] at H
                      have c21b0 : (t153 == 0) = true := beq_iff_eq.mpr c21
                      have c21b1 : (t153 != 0) = false := bne_eq_false_iff_eq.mpr c21
                      clear c21
                      (first | rw [c21b0] | (simp only [i64_w, i32_w]; rw [c21b0]) | skip)
                      by_cases c22 : t152 = a0
                      · rw [if_pos c22] at H
                        have c22b0 : (t152 == a0) = true := beq_iff_eq.mpr c22
                        have c22b1 : (t152 != a0) = false := bne_eq_false_iff_eq.mpr c22
                        clear c22
                        have H' := Aside0.mk H
                        clear H
                        go_wp2_with (first | ((with_reducible refine gate_callee (f := 18) rfl ?_); refine goesL_ (some 66) rfl rfl Try.func18 (by kernel_rfl) rfl #[.int .i64 (rd y146 x50_2), .int .i64 t150] rfl (by (try simp only [List.map_toArray, List.map_cons, List.map_nil]); first | done | rfl | (simp only [List.length_drop, List.length_take]; rfl)) ?_; (with_reducible refine (word_Of.calls k2 (rd y146 x50_2) t150 t152 t153 _ A20.out).mono ?_); rintro e w' ⟨rfl, ⟨nd, rfl⟩⟩; refine ⟨_, rfl, ?_⟩))
                        go_meet
                        case rel => exact ⟨_, (wrap64 (x6_2 + 1)), (by first | rfl | (simp; done) | (simp [*]; done)), H', ⟨by have := HJ4.out; have := HK2.out; first | omega | exact Nat.le_refl _⟩, ⟨by (with_reducible repeat (first | apply Kd.R_alloc | apply Kd.R_drewN | apply Kd.R_drew)); exact HO_48.out⟩, ⟨by repeat (first | (with_reducible first | exact HB.out | apply below_alloc | apply pw_below_drewN | apply below_drew1) | exact HB.out)⟩⟩
                      · rw [if_neg c22] at H
                        have c22b0 : (t152 == a0) = false := beq_eq_false_iff_ne.mpr c22
                        have c22b1 : (t152 != a0) = true := bne_iff_ne.mpr c22
                        obtain rfl := Option.some.inj H
                        go_wp2_with (first | ((with_reducible refine gate_callee (f := 18) rfl ?_); refine goesL_ (some 66) rfl rfl Try.func18 (by kernel_rfl) rfl #[.int .i64 (rd y146 x50_2), .int .i64 t150] rfl (by (try simp only [List.map_toArray, List.map_cons, List.map_nil]); first | done | rfl | (simp only [List.length_drop, List.length_take]; rfl)) ?_; (with_reducible refine (word_Of.calls k2 (rd y146 x50_2) t150 t152 t153 _ A20.out).mono ?_); rintro e w' ⟨rfl, ⟨nd, rfl⟩⟩; refine ⟨_, rfl, ?_⟩))
                        go_ret
                        exact ⟨by first | rfl | (simp [errW_none, errW_some] <;> rfl) | (simp [*, errW_none, errW_some] <;> rfl), by repeat (first | (with_reducible first | exact HB.out | apply below_alloc | apply pw_below_drewN | apply below_drew1) | exact HB.out)⟩
                    · rw [if_neg c21] at H
                      have c21b0 : (t153 == 0) = false := beq_eq_false_iff_ne.mpr c21
                      have c21b1 : (t153 != 0) = true := bne_iff_ne.mpr c21
                      (first | rw [c21b0] | (simp only [i64_w, i32_w]; rw [c21b0]) | skip)
                      obtain rfl := Option.some.inj H
                      go_wp2_with (first | ((with_reducible refine gate_callee (f := 18) rfl ?_); refine goesL_ (some 66) rfl rfl Try.func18 (by kernel_rfl) rfl #[.int .i64 (rd y146 x50_2), .int .i64 t150] rfl (by (try simp only [List.map_toArray, List.map_cons, List.map_nil]); first | done | rfl | (simp only [List.length_drop, List.length_take]; rfl)) ?_; (with_reducible refine (word_Of.calls k2 (rd y146 x50_2) t150 t152 t153 _ A20.out).mono ?_); rintro e w' ⟨rfl, ⟨nd, rfl⟩⟩; refine ⟨_, rfl, ?_⟩))
                      go_ret
                      exact ⟨by first | rfl | (simp [errW_none, errW_some] <;> rfl) | (simp [*, errW_none, errW_some] <;> rfl), by repeat (first | (with_reducible first | exact HB.out | apply below_alloc | apply pw_below_drewN | apply below_drew1) | exact HB.out)⟩
                  · replace c19 := Bool.eq_false_iff.mpr c19
                    subst c19
                    have H1 : (eddywheellaw01_WordOne.j2 k2 a0 a1 t141 x6_2 (rd y146 x50_2) y146 (y146.length : Int) x50_2) = some r := by rw [if_neg (show ¬ (false = true) by decide)] at H; exact H
                    clear H
                    have H := H1
                    clear H1
                    have H' := Aside0.mk H
                    clear H
                    go_wp2
                    go_meet
                    case rel => exact ⟨_, (x6_2), (by first | rfl | (simp; done) | (simp [*]; done)), H', ⟨by have := HJ4.out; have := HK2.out; first | omega | exact Nat.le_refl _⟩, ⟨by (with_reducible repeat (first | apply Kd.R_alloc | apply Kd.R_drewN | apply Kd.R_drew)); exact HO_48.out⟩, ⟨by repeat (first | (with_reducible first | exact HB.out | apply below_alloc | apply pw_below_drewN | apply below_drew1) | exact HB.out)⟩⟩
                case rest =>
                  clear HC18
                  try clear c1
                  try clear p1
                  try clear q1
                  try clear hx1
                  try clear c2
                  try clear p2
                  try clear p6
                  try clear c7
                  try clear c9
                  try clear c9b0
                  try clear c9b1
                  try clear c10
                  try clear c10b0
                  try clear c10b1
                  try clear c13
                  try clear c14
                  try clear c14b0
                  try clear p14
                  try clear q14
                  try clear hx14
                  try clear c15
                  try clear c15b0
                  try clear c16
                  try clear c16b0
                  try clear c18
                  try clear c19
                  try clear c21
                  try clear c21b0
                  try clear c21b1
                  try clear c22
                  try clear c22b0
                  try clear c22b1
                  try clear hx149_0
                  try clear p149
                  try clear p2
                  try clear q149
                  obtain ⟨kq, x6_17, rfl, HA, HJ17, HO_48, HB⟩ := hcut
                  cases kq with
                  | zero => exact absurd HA.out (by simp [eddywheellaw01_WordOne.j2])
                  | succ kj17 =>
                    have H := HA.out
                    clear HA
                    simp only [eddywheellaw01_WordOne.j2] at H
                    replace H := Option.bind_eq_some_iff.mp H
                    obtain ⟨⟨t154, t155⟩, A230, H⟩ := H
                    replace H : (if t155 = 0 then ((word_To.f kj17 (rd y146 x50_2) t154).bind fun bt156 => (if bt156.2 = true then (if bt156.1 = a1 then ((word_May.f kj17 t154).bind fun t158 => (if t158 = true then (eddywheellaw01_WordOne.l0 kj17 a0 a1 t141 x6_17 y146 (y146.length : Int) (wrap64 (x50_2 + 1))) else (some false))) else (some false)) else (some false))) else (eddywheellaw01_WordOne.l0 kj17 a0 a1 t141 x6_17 y146 (y146.length : Int) (wrap64 (x50_2 + 1)))) = some r := H
                    have A23 := Aside0.mk A230
                    clear A230
                    by_cases c24 : t155 = 0
                    · rw [if_pos c24] at H
                      have c24b0 : (t155 == 0) = true := beq_iff_eq.mpr c24
                      have c24b1 : (t155 != 0) = false := bne_eq_false_iff_eq.mpr c24
                      clear c24
                      replace H := Option.bind_eq_some_iff.mp H
                      obtain ⟨⟨t156, t157⟩, A250, H⟩ := H
                      replace H : (if t157 = true then (if t156 = a1 then ((word_May.f kj17 t154).bind fun t158 => (if t158 = true then (eddywheellaw01_WordOne.l0 kj17 a0 a1 t141 x6_17 y146 (y146.length : Int) (wrap64 (x50_2 + 1))) else (some false))) else (some false)) else (some false)) = some r := H
                      have A25 := Aside0.mk A250
                      clear A250
                      by_cases c26 : t157 = true
                      · subst c26
                        have H1 : (if t156 = a1 then ((word_May.f kj17 t154).bind fun t158 => (if t158 = true then (eddywheellaw01_WordOne.l0 kj17 a0 a1 t141 x6_17 y146 (y146.length : Int) (wrap64 (x50_2 + 1))) else (some false))) else (some false)) = some r := by rw [if_pos rfl] at H; exact H
                        clear H
                        have H := H1
                        clear H1
                        by_cases c27 : t156 = a1
                        · rw [if_pos c27] at H
                          have c27b0 : (t156 == a1) = true := beq_iff_eq.mpr c27
                          have c27b1 : (t156 != a1) = false := bne_eq_false_iff_eq.mpr c27
                          clear c27
                          replace H := Option.bind_eq_some_iff.mp H
                          obtain ⟨t158, A280, H⟩ := H
                          replace H : (if t158 = true then (eddywheellaw01_WordOne.l0 kj17 a0 a1 t141 x6_17 y146 (y146.length : Int) (wrap64 (x50_2 + 1))) else (some false)) = some r := H
                          have A28 := Aside0.mk A280
                          clear A280
                          by_cases c29 : t158 = true
                          · subst c29
                            have H1 : (eddywheellaw01_WordOne.l0 kj17 a0 a1 t141 x6_17 y146 (y146.length : Int) (wrap64 (x50_2 + 1))) = some r := by rw [if_pos rfl] at H; exact H
                            clear H
                            have H := H1
                            clear H1
                            have H' := Aside0.mk H
                            clear H
                            go_wp2_with (first | ((with_reducible refine gate_callee (f := 18) rfl ?_); refine goesL_ (some 79) rfl rfl Try.func18 (by kernel_rfl) rfl #[.int .i64 (rd y146 x50_2), .int .i64 a1] rfl (by (try simp only [List.map_toArray, List.map_cons, List.map_nil]); first | done | rfl | (simp only [List.length_drop, List.length_take]; rfl)) ?_; (with_reducible refine (word_Of.calls kj17 (rd y146 x50_2) a1 t154 t155 _ A23.out).mono ?_); rintro e w' ⟨rfl, ⟨nd, rfl⟩⟩; refine ⟨_, rfl, ?_⟩) | ((with_reducible refine gate_callee (f := 23) rfl ?_); refine goesL_ (some 87) rfl rfl Try.func23 (by kernel_rfl) rfl #[.int .i64 (rd y146 x50_2), .int .u64 t154] rfl (by (try simp only [List.map_toArray, List.map_cons, List.map_nil]); first | done | rfl | (simp only [List.length_drop, List.length_take]; rfl)) ?_; (with_reducible refine (word_To.calls kj17 (rd y146 x50_2) t154 t156 true _ A25.out).mono ?_); rintro e w' ⟨rfl, ⟨nd, rfl⟩⟩; refine ⟨_, rfl, ?_⟩) | (go_at_call 25; (with_reducible refine (word_May.calls kj17 t154 true _ A28.out).mono ?_); rintro e w' ⟨rfl, ⟨nd, rfl⟩⟩))
                            go_roundg kj17
                            case measure => have := HJ4.out; have := HK2.out; have := HJ17.out; omega
                            case rel => exact ⟨(x6_17), (wrap64 (x50_2 + 1)), (by first | rfl | (simp; done) | (simp [*]; done)), (by first | rfl | (simp; done) | (simp [*]; done)), H', ⟨by have := HJ4.out; have := HK2.out; have := HJ17.out; omega⟩, ⟨by (with_reducible repeat (first | apply Kd.R_alloc | apply Kd.R_drewN | apply Kd.R_drew)); exact HO_48.out⟩, ⟨by repeat (first | (with_reducible first | exact HB.out | apply below_alloc | apply pw_below_drewN | apply below_drew1) | exact HB.out)⟩⟩
                          · replace c29 := Bool.eq_false_iff.mpr c29
                            subst c29
                            have H1 : (some false) = some r := by rw [if_neg (show ¬ (false = true) by decide)] at H; exact H
                            clear H
                            have H := H1
                            clear H1
                            obtain rfl := Option.some.inj H
                            go_wp2_with (first | ((with_reducible refine gate_callee (f := 18) rfl ?_); refine goesL_ (some 79) rfl rfl Try.func18 (by kernel_rfl) rfl #[.int .i64 (rd y146 x50_2), .int .i64 a1] rfl (by (try simp only [List.map_toArray, List.map_cons, List.map_nil]); first | done | rfl | (simp only [List.length_drop, List.length_take]; rfl)) ?_; (with_reducible refine (word_Of.calls kj17 (rd y146 x50_2) a1 t154 t155 _ A23.out).mono ?_); rintro e w' ⟨rfl, ⟨nd, rfl⟩⟩; refine ⟨_, rfl, ?_⟩) | ((with_reducible refine gate_callee (f := 23) rfl ?_); refine goesL_ (some 87) rfl rfl Try.func23 (by kernel_rfl) rfl #[.int .i64 (rd y146 x50_2), .int .u64 t154] rfl (by (try simp only [List.map_toArray, List.map_cons, List.map_nil]); first | done | rfl | (simp only [List.length_drop, List.length_take]; rfl)) ?_; (with_reducible refine (word_To.calls kj17 (rd y146 x50_2) t154 t156 true _ A25.out).mono ?_); rintro e w' ⟨rfl, ⟨nd, rfl⟩⟩; refine ⟨_, rfl, ?_⟩) | (go_at_call 25; (with_reducible refine (word_May.calls kj17 t154 false _ A28.out).mono ?_); rintro e w' ⟨rfl, ⟨nd, rfl⟩⟩))
                            go_ret
                            exact ⟨by first | rfl | (simp [errW_none, errW_some] <;> rfl) | (simp [*, errW_none, errW_some] <;> rfl), by repeat (first | (with_reducible first | exact HB.out | apply below_alloc | apply pw_below_drewN | apply below_drew1) | exact HB.out)⟩
                        · rw [if_neg c27] at H
                          have c27b0 : (t156 == a1) = false := beq_eq_false_iff_ne.mpr c27
                          have c27b1 : (t156 != a1) = true := bne_iff_ne.mpr c27
                          obtain rfl := Option.some.inj H
                          go_wp2_with (first | ((with_reducible refine gate_callee (f := 18) rfl ?_); refine goesL_ (some 79) rfl rfl Try.func18 (by kernel_rfl) rfl #[.int .i64 (rd y146 x50_2), .int .i64 a1] rfl (by (try simp only [List.map_toArray, List.map_cons, List.map_nil]); first | done | rfl | (simp only [List.length_drop, List.length_take]; rfl)) ?_; (with_reducible refine (word_Of.calls kj17 (rd y146 x50_2) a1 t154 t155 _ A23.out).mono ?_); rintro e w' ⟨rfl, ⟨nd, rfl⟩⟩; refine ⟨_, rfl, ?_⟩) | ((with_reducible refine gate_callee (f := 23) rfl ?_); refine goesL_ (some 87) rfl rfl Try.func23 (by kernel_rfl) rfl #[.int .i64 (rd y146 x50_2), .int .u64 t154] rfl (by (try simp only [List.map_toArray, List.map_cons, List.map_nil]); first | done | rfl | (simp only [List.length_drop, List.length_take]; rfl)) ?_; (with_reducible refine (word_To.calls kj17 (rd y146 x50_2) t154 t156 true _ A25.out).mono ?_); rintro e w' ⟨rfl, ⟨nd, rfl⟩⟩; refine ⟨_, rfl, ?_⟩))
                          go_ret
                          exact ⟨by first | rfl | (simp [errW_none, errW_some] <;> rfl) | (simp [*, errW_none, errW_some] <;> rfl), by repeat (first | (with_reducible first | exact HB.out | apply below_alloc | apply pw_below_drewN | apply below_drew1) | exact HB.out)⟩
                      · replace c26 := Bool.eq_false_iff.mpr c26
                        subst c26
                        have H1 : (some false) = some r := by rw [if_neg (show ¬ (false = true) by decide)] at H; exact H
                        clear H
                        have H := H1
                        clear H1
                        obtain rfl := Option.some.inj H
                        go_wp2_with (first | ((with_reducible refine gate_callee (f := 18) rfl ?_); refine goesL_ (some 79) rfl rfl Try.func18 (by kernel_rfl) rfl #[.int .i64 (rd y146 x50_2), .int .i64 a1] rfl (by (try simp only [List.map_toArray, List.map_cons, List.map_nil]); first | done | rfl | (simp only [List.length_drop, List.length_take]; rfl)) ?_; (with_reducible refine (word_Of.calls kj17 (rd y146 x50_2) a1 t154 t155 _ A23.out).mono ?_); rintro e w' ⟨rfl, ⟨nd, rfl⟩⟩; refine ⟨_, rfl, ?_⟩) | ((with_reducible refine gate_callee (f := 23) rfl ?_); refine goesL_ (some 87) rfl rfl Try.func23 (by kernel_rfl) rfl #[.int .i64 (rd y146 x50_2), .int .u64 t154] rfl (by (try simp only [List.map_toArray, List.map_cons, List.map_nil]); first | done | rfl | (simp only [List.length_drop, List.length_take]; rfl)) ?_; (with_reducible refine (word_To.calls kj17 (rd y146 x50_2) t154 t156 false _ A25.out).mono ?_); rintro e w' ⟨rfl, ⟨nd, rfl⟩⟩; refine ⟨_, rfl, ?_⟩))
                        go_ret
                        exact ⟨by first | rfl | (simp [errW_none, errW_some] <;> rfl) | (simp [*, errW_none, errW_some] <;> rfl), by repeat (first | (with_reducible first | exact HB.out | apply below_alloc | apply pw_below_drewN | apply below_drew1) | exact HB.out)⟩
                    · rw [if_neg c24] at H
                      have c24b0 : (t155 == 0) = false := beq_eq_false_iff_ne.mpr c24
                      have c24b1 : (t155 != 0) = true := bne_iff_ne.mpr c24
                      have H' := Aside0.mk H
                      clear H
                      go_wp2_with (first | ((with_reducible refine gate_callee (f := 18) rfl ?_); refine goesL_ (some 79) rfl rfl Try.func18 (by kernel_rfl) rfl #[.int .i64 (rd y146 x50_2), .int .i64 a1] rfl (by (try simp only [List.map_toArray, List.map_cons, List.map_nil]); first | done | rfl | (simp only [List.length_drop, List.length_take]; rfl)) ?_; (with_reducible refine (word_Of.calls kj17 (rd y146 x50_2) a1 t154 t155 _ A23.out).mono ?_); rintro e w' ⟨rfl, ⟨nd, rfl⟩⟩; refine ⟨_, rfl, ?_⟩))
                      go_roundg kj17
                      case measure => have := HJ4.out; have := HK2.out; have := HJ17.out; omega
                      case rel => exact ⟨(x6_17), (wrap64 (x50_2 + 1)), (by first | rfl | (simp; done) | (simp [*]; done)), (by first | rfl | (simp; done) | (simp [*]; done)), H', ⟨by have := HJ4.out; have := HK2.out; have := HJ17.out; omega⟩, ⟨by (with_reducible repeat (first | apply Kd.R_alloc | apply Kd.R_drewN | apply Kd.R_drew)); exact HO_48.out⟩, ⟨by repeat (first | (with_reducible first | exact HB.out | apply below_alloc | apply pw_below_drewN | apply below_drew1) | exact HB.out)⟩⟩
              · rw [if_neg c16] at H
                exact absurd H (by simp)
            · rw [if_neg c15] at H
              exact absurd H (by simp)
          · rw [if_neg c14] at H
            have c14b0 : decide (x50_2 < (y146.length : Int)) = false := decide_eq_false c14
            clear c14
            obtain ⟨y159, hy159⟩ : ∃ y_ : List Int, y_ = (([2, 10, 18, 26] : List Int)) := ⟨_, rfl⟩
            replace H : (eddywheellaw01_WordOne.l1 k2 a0 a1 t141 x6_2 y159 (y159.length : Int) 0) = some r := by first | (rw [hy159]; with_reducible exact H) | (have H2_ := (Option.bind_some _ _).symm.trans H; rw [hy159]; with_reducible exact H2_) | (have H2_ := (Option.bind_some _ _).symm.trans H; with_reducible exact H2_) | with_reducible exact H | (rw [hy159]; exact H) | exact H
            have Ny159 := Aside0.mk hy159
            clear hy159
            have H' := Aside0.mk H
            clear H
            go_wp2_with (first | ((with_reducible refine gate_dst (N := 103) rfl ?_); refine Kd.R_lit (Kd.int .u64) _ 23 ?hg (N := 103) ?hd (xs := ([2, 10, 18, 26] : List Int)) (inner := [.int .u64 2, .int .u64 10, .int .u64 18, .int .u64 26]) (ok := fun _ => True) (okp := fun _ => True) ?hr ?hp (fun _ hk => hk) trivial (Below.refl _ _) (Nat.le_refl _) (by simp) ?_; (case hd => rfl); (case hg => rfl); (case hr => first | (go_simp; done) | (go_simp; rfl)); (case hp => exact (Reps.one (show Kd.M (Kd.int .u64) _ _ _ 2 [.int .u64 2] from rfl) (Reps.one (show Kd.M (Kd.int .u64) _ _ _ 10 [.int .u64 10] from rfl) (Reps.one (show Kd.M (Kd.int .u64) _ _ _ 18 [.int .u64 18] from rfl) (Reps.one (show Kd.M (Kd.int .u64) _ _ _ 26 [.int .u64 26] from rfl) (Reps.none _ _)))))); intro v160 w30 ho31 hb hg_ hnew_; clear hg_ hnew_; (first | rw [← Ny159.out] at ho31 | (simp only [Int.reduceToNat] at ho31; rw [← Ny159.out] at ho31)); have n0_ := Aside0.mk (Kd.R_below (by (with_reducible repeat (first | apply Kd.R_alloc | apply Kd.R_drewN | apply Kd.R_drew)); exact HO_48.out) hb); have n1_ := Aside0.mk (Kd.R_lower ho31 (below_size (by repeat (first | (with_reducible first | exact HB.out | apply below_alloc | apply pw_below_drewN | apply below_drew1) | exact HB.out)))); have n2_ := Aside0.mk (below_step (by repeat (first | (with_reducible first | exact HB.out | apply below_alloc | apply pw_below_drewN | apply below_drew1) | exact HB.out)) hb); clear HO_48; clear HB; have HO_48 := n0_; have HO161 := n1_; have HB := n2_; clear n0_ n1_ n2_; clear hb ho31; obtain ⟨Ao32, co32, eo32⟩ := Kd.R_slice HO161.out; subst eo32))
            go_loopg [6, 105] k2 (fun kq v6 v105 w' => ∃ (x6_3 : Int) (x105_3 : Int), v6 = .int .i64 x6_3 ∧ v105 = .int .i64 x105_3 ∧ Aside0 (eddywheellaw01_WordOne.l1 kq a0 a1 t141 x6_3 y159 (y159.length : Int) x105_3 = some r) ∧ Aside0 (kq ≤ k2) ∧ Aside0 (Kd.R (Kd.int .u64) 23 w' w.heap.size (fun _ => True) (.slice Ao32 y159.length co32) y159) ∧ Aside0 (Below w.heap.size w w'))
            case atStart => exact ⟨(x6_2), (0), (by first | rfl | (simp; done) | (simp [*]; done)), (by first | rfl | (simp; done) | (simp [*]; done)), H', ⟨Nat.le_refl _⟩, ⟨by (with_reducible repeat (first | apply Kd.R_alloc | apply Kd.R_drewN | apply Kd.R_drew)); exact HO161.out⟩, ⟨by repeat (first | (with_reducible first | exact HB.out | apply below_alloc | apply pw_below_drewN | apply below_drew1) | exact HB.out)⟩⟩
            case round =>
              clear H'
              try clear c1
              try clear p1
              try clear q1
              try clear hx1
              try clear c2
              try clear p2
              try clear p6
              try clear c7
              try clear c9
              try clear c9b0
              try clear c9b1
              try clear c10
              try clear c10b0
              try clear c10b1
              try clear c13
              try clear c14
              try clear c14b0
              try clear p14
              try clear q14
              try clear hx14
              try clear c15
              try clear c15b0
              try clear c16
              try clear c16b0
              try clear c18
              try clear c19
              try clear c21
              try clear c21b0
              try clear c21b1
              try clear c22
              try clear c22b0
              try clear c22b1
              try clear c23
              try clear c24
              try clear c24b0
              try clear c24b1
              try clear c26
              try clear c27
              try clear c27b0
              try clear c27b1
              try clear c29
              try clear hx149_0
              try clear p1
              try clear p14
              try clear p149
              try clear p2
              try clear p6
              try clear q1
              try clear q14
              try clear q149
              obtain ⟨x6_3, x105_3, rfl, rfl, HA, HK3, HO_103, HB⟩ := hrel
              cases gk with
              | zero => exact absurd HA.out (by simp [eddywheellaw01_WordOne.l1])
              | succ k3 =>
                have H := HA.out
                clear HA
                simp only [eddywheellaw01_WordOne.l1] at H
                by_cases c33 : x105_3 < (y159.length : Int)
                · rw [if_pos c33] at H
                  have c33b0 : decide (x105_3 < (y159.length : Int)) = true := decide_eq_true c33
                  clear c33
                  by_cases c34 : 0 ≤ x105_3
                  · rw [if_pos c34] at H
                    have c34b0 : decide (0 ≤ x105_3) = true := decide_eq_true c34
                    clear c34
                    by_cases c35 : x105_3 < (y159.length : Int)
                    · rw [if_pos c35] at H
                      have c35b0 : decide (x105_3 < (y159.length : Int)) = true := decide_eq_true c35
                      clear c35
                      by_cases c36 : (rd y159 x105_3) = a0
                      · rw [if_pos c36] at H
                        have c36b0 : ((rd y159 x105_3) == a0) = true := beq_iff_eq.mpr c36
                        have c36b1 : ((rd y159 x105_3) != a0) = false := bne_eq_false_iff_eq.mpr c36
                        clear c36
                        have H' := Aside0.mk H
                        clear H
                        have p162 : 0 ≤ (x105_3 : Int) := of_decide_eq_true (by first | (with_reducible assumption) | assumption)
                        have q162 : x105_3 < (y159.length : Int) := of_decide_eq_true (by first | (with_reducible assumption) | assumption)
                        obtain ⟨ad162, e162, hx162_0⟩ := Kd.at_int (Kd.R_reads' HO_103.out).2.2 x105_3 p162 q162
                        cases e162
                        replace p162 := eq_true p162
                        replace q162 := eq_true q162
                        go_wp2
                        go_roundg k3
                        case measure => have := HJ4.out; have := HK2.out; have := HK3.out; omega
                        case rel => exact ⟨(wrap64 (x6_3 + 1)), (wrap64 (x105_3 + 1)), (by first | rfl | (simp; done) | (simp [*]; done)), (by first | rfl | (simp; done) | (simp [*]; done)), H', ⟨by have := HJ4.out; have := HK2.out; have := HK3.out; omega⟩, ⟨by (with_reducible repeat (first | apply Kd.R_alloc | apply Kd.R_drewN | apply Kd.R_drew)); exact HO_103.out⟩, ⟨by repeat (first | (with_reducible first | exact HB.out | apply below_alloc | apply pw_below_drewN | apply below_drew1) | exact HB.out)⟩⟩
                      · rw [if_neg c36] at H
                        have c36b0 : ((rd y159 x105_3) == a0) = false := beq_eq_false_iff_ne.mpr c36
                        have c36b1 : ((rd y159 x105_3) != a0) = true := bne_iff_ne.mpr c36
                        have H' := Aside0.mk H
                        clear H
                        have p162 : 0 ≤ (x105_3 : Int) := of_decide_eq_true (by first | (with_reducible assumption) | assumption)
                        have q162 : x105_3 < (y159.length : Int) := of_decide_eq_true (by first | (with_reducible assumption) | assumption)
                        obtain ⟨ad162, e162, hx162_0⟩ := Kd.at_int (Kd.R_reads' HO_103.out).2.2 x105_3 p162 q162
                        cases e162
                        replace p162 := eq_true p162
                        replace q162 := eq_true q162
                        go_wp2
                        go_roundg k3
                        case measure => have := HJ4.out; have := HK2.out; have := HK3.out; omega
                        case rel => exact ⟨(x6_3), (wrap64 (x105_3 + 1)), (by first | rfl | (simp; done) | (simp [*]; done)), (by first | rfl | (simp; done) | (simp [*]; done)), H', ⟨by have := HJ4.out; have := HK2.out; have := HK3.out; omega⟩, ⟨by (with_reducible repeat (first | apply Kd.R_alloc | apply Kd.R_drewN | apply Kd.R_drew)); exact HO_103.out⟩, ⟨by repeat (first | (with_reducible first | exact HB.out | apply below_alloc | apply pw_below_drewN | apply below_drew1) | exact HB.out)⟩⟩
                    · rw [if_neg c35] at H
                      exact absurd H (by simp)
                  · rw [if_neg c34] at H
                    exact absurd H (by simp)
                · rw [if_neg c33] at H
                  have c33b0 : decide (x105_3 < (y159.length : Int)) = false := decide_eq_false c33
                  clear c33
                  replace H := Option.bind_eq_some_iff.mp H
                  obtain ⟨⟨t163, t164⟩, A370, H⟩ := H
                  replace H : ((word_ToInt.f t163).bind fun bt165 => (if t141 = true then ((word_May.f k3 a0).bind fun t167 => (if ((x6_3 == 1) == t167) = true then (if x6_3 ≤ 1 then (if t164 = 0 then (if bt165.2 = true then (some (bt165.1 == a1)) else (some false)) else (some true)) else (some false)) else (some false))) else (some false))) = some r := H
                  have A37 := Aside0.mk A370
                  clear A370
                  replace H := Option.bind_eq_some_iff.mp H
                  obtain ⟨⟨t165, t166⟩, A380, H⟩ := H
                  replace H : (if t141 = true then ((word_May.f k3 a0).bind fun t167 => (if ((x6_3 == 1) == t167) = true then (if x6_3 ≤ 1 then (if t164 = 0 then (if t166 = true then (some (t165 == a1)) else (some false)) else (some true)) else (some false)) else (some false))) else (some false)) = some r := H
                  have A38 := Aside0.mk A380
                  clear A380
                  by_cases c39 : t141 = true
                  · subst c39
                    have H1 : ((word_May.f k3 a0).bind fun t167 => (if ((x6_3 == 1) == t167) = true then (if x6_3 ≤ 1 then (if t164 = 0 then (if t166 = true then (some (t165 == a1)) else (some false)) else (some true)) else (some false)) else (some false))) = some r := by rw [if_pos rfl] at H; exact H
                    clear H
                    have H := H1
                    clear H1
                    replace H := Option.bind_eq_some_iff.mp H
                    obtain ⟨t167, A400, H⟩ := H
                    replace H : (if ((x6_3 == 1) == t167) = true then (if x6_3 ≤ 1 then (if t164 = 0 then (if t166 = true then (some (t165 == a1)) else (some false)) else (some true)) else (some false)) else (some false)) = some r := H
                    have A40 := Aside0.mk A400
                    clear A400
                    by_cases c41 : ((x6_3 == 1) == t167) = true
                    · rw [if_pos c41] at H
                      have c41b0 : ((x6_3 == 1) == t167) = true := c41
                      (try (have c41b1 : decide ((x6_3 == 1) = t167) = true := by simpa using c41))
                      (try (have c41b2 : ((x6_3 == 1) == t167) = true := by simpa using c41))
                      clear c41
                      by_cases c42 : x6_3 ≤ 1
                      · rw [if_pos c42] at H
                        have c42b0 : decide (x6_3 ≤ 1) = true := decide_eq_true c42
                        clear c42
                        by_cases c43 : t164 = 0
                        · rw [if_pos c43] at H
                          have c43b0 : (t164 == 0) = true := beq_iff_eq.mpr c43
                          have c43b1 : (t164 != 0) = false := bne_eq_false_iff_eq.mpr c43
                          clear c43
                          by_cases c44 : t166 = true
                          · subst c44
                            have H1 : (some (t165 == a1)) = some r := by rw [if_pos rfl] at H; exact H
                            clear H
                            have H := H1
                            clear H1
                            obtain rfl := Option.some.inj H
                            go_wp2_with (first | ((with_reducible refine gate_callee (f := 14) rfl ?_); refine goesL_ (some 117) rfl rfl Try.func14 (by kernel_rfl) rfl #[.int .i64 a1] rfl (by (try simp only [List.map_toArray, List.map_cons, List.map_nil]); first | done | rfl | (simp only [List.length_drop, List.length_take]; rfl)) ?_; (with_reducible refine (word_Int.calls a1 t163 t164 _ A37.out).mono ?_); rintro e w' ⟨rfl, ⟨nd, rfl⟩⟩; refine ⟨_, rfl, ?_⟩) | ((with_reducible refine gate_callee (f := 15) rfl ?_); refine goesL_ (some 122) rfl rfl Try.func15 (by kernel_rfl) rfl #[.int .u64 t163] rfl (by (try simp only [List.map_toArray, List.map_cons, List.map_nil]); first | done | rfl | (simp only [List.length_drop, List.length_take]; rfl)) ?_; (with_reducible refine (word_ToInt.calls t163 t165 true _ A38.out).mono ?_); rintro e w' ⟨rfl, ⟨nd, rfl⟩⟩; refine ⟨_, rfl, ?_⟩) | (go_at_call 25; (with_reducible refine (word_May.calls k3 a0 t167 _ A40.out).mono ?_); rintro e w' ⟨rfl, ⟨nd, rfl⟩⟩))
                            go_ret
                            exact ⟨by first | rfl | (simp [errW_none, errW_some] <;> rfl) | (simp [*, errW_none, errW_some] <;> rfl), by repeat (first | (with_reducible first | exact HB.out | apply below_alloc | apply pw_below_drewN | apply below_drew1) | exact HB.out)⟩
                          · replace c44 := Bool.eq_false_iff.mpr c44
                            subst c44
                            have H1 : (some false) = some r := by rw [if_neg (show ¬ (false = true) by decide)] at H; exact H
                            clear H
                            have H := H1
                            clear H1
                            obtain rfl := Option.some.inj H
                            go_wp2_with (first | ((with_reducible refine gate_callee (f := 14) rfl ?_); refine goesL_ (some 117) rfl rfl Try.func14 (by kernel_rfl) rfl #[.int .i64 a1] rfl (by (try simp only [List.map_toArray, List.map_cons, List.map_nil]); first | done | rfl | (simp only [List.length_drop, List.length_take]; rfl)) ?_; (with_reducible refine (word_Int.calls a1 t163 t164 _ A37.out).mono ?_); rintro e w' ⟨rfl, ⟨nd, rfl⟩⟩; refine ⟨_, rfl, ?_⟩) | ((with_reducible refine gate_callee (f := 15) rfl ?_); refine goesL_ (some 122) rfl rfl Try.func15 (by kernel_rfl) rfl #[.int .u64 t163] rfl (by (try simp only [List.map_toArray, List.map_cons, List.map_nil]); first | done | rfl | (simp only [List.length_drop, List.length_take]; rfl)) ?_; (with_reducible refine (word_ToInt.calls t163 t165 false _ A38.out).mono ?_); rintro e w' ⟨rfl, ⟨nd, rfl⟩⟩; refine ⟨_, rfl, ?_⟩) | (go_at_call 25; (with_reducible refine (word_May.calls k3 a0 t167 _ A40.out).mono ?_); rintro e w' ⟨rfl, ⟨nd, rfl⟩⟩))
                            go_ret
                            exact ⟨by first | rfl | (simp [errW_none, errW_some] <;> rfl) | (simp [*, errW_none, errW_some] <;> rfl), by repeat (first | (with_reducible first | exact HB.out | apply below_alloc | apply pw_below_drewN | apply below_drew1) | exact HB.out)⟩
                        · rw [if_neg c43] at H
                          have c43b0 : (t164 == 0) = false := beq_eq_false_iff_ne.mpr c43
                          have c43b1 : (t164 != 0) = true := bne_iff_ne.mpr c43
                          obtain rfl := Option.some.inj H
                          go_wp2_with (first | ((with_reducible refine gate_callee (f := 14) rfl ?_); refine goesL_ (some 117) rfl rfl Try.func14 (by kernel_rfl) rfl #[.int .i64 a1] rfl (by (try simp only [List.map_toArray, List.map_cons, List.map_nil]); first | done | rfl | (simp only [List.length_drop, List.length_take]; rfl)) ?_; (with_reducible refine (word_Int.calls a1 t163 t164 _ A37.out).mono ?_); rintro e w' ⟨rfl, ⟨nd, rfl⟩⟩; refine ⟨_, rfl, ?_⟩) | ((with_reducible refine gate_callee (f := 15) rfl ?_); refine goesL_ (some 122) rfl rfl Try.func15 (by kernel_rfl) rfl #[.int .u64 t163] rfl (by (try simp only [List.map_toArray, List.map_cons, List.map_nil]); first | done | rfl | (simp only [List.length_drop, List.length_take]; rfl)) ?_; (with_reducible refine (word_ToInt.calls t163 t165 t166 _ A38.out).mono ?_); rintro e w' ⟨rfl, ⟨nd, rfl⟩⟩; refine ⟨_, rfl, ?_⟩) | (go_at_call 25; (with_reducible refine (word_May.calls k3 a0 t167 _ A40.out).mono ?_); rintro e w' ⟨rfl, ⟨nd, rfl⟩⟩))
                          go_ret
                          exact ⟨by first | rfl | (simp [errW_none, errW_some] <;> rfl) | (simp [*, errW_none, errW_some] <;> rfl), by repeat (first | (with_reducible first | exact HB.out | apply below_alloc | apply pw_below_drewN | apply below_drew1) | exact HB.out)⟩
                      · rw [if_neg c42] at H
                        have c42b0 : decide (x6_3 ≤ 1) = false := decide_eq_false c42
                        clear c42
                        obtain rfl := Option.some.inj H
                        go_wp2_with (first | ((with_reducible refine gate_callee (f := 14) rfl ?_); refine goesL_ (some 117) rfl rfl Try.func14 (by kernel_rfl) rfl #[.int .i64 a1] rfl (by (try simp only [List.map_toArray, List.map_cons, List.map_nil]); first | done | rfl | (simp only [List.length_drop, List.length_take]; rfl)) ?_; (with_reducible refine (word_Int.calls a1 t163 t164 _ A37.out).mono ?_); rintro e w' ⟨rfl, ⟨nd, rfl⟩⟩; refine ⟨_, rfl, ?_⟩) | ((with_reducible refine gate_callee (f := 15) rfl ?_); refine goesL_ (some 122) rfl rfl Try.func15 (by kernel_rfl) rfl #[.int .u64 t163] rfl (by (try simp only [List.map_toArray, List.map_cons, List.map_nil]); first | done | rfl | (simp only [List.length_drop, List.length_take]; rfl)) ?_; (with_reducible refine (word_ToInt.calls t163 t165 t166 _ A38.out).mono ?_); rintro e w' ⟨rfl, ⟨nd, rfl⟩⟩; refine ⟨_, rfl, ?_⟩) | (go_at_call 25; (with_reducible refine (word_May.calls k3 a0 t167 _ A40.out).mono ?_); rintro e w' ⟨rfl, ⟨nd, rfl⟩⟩))
                        go_ret
                        exact ⟨by first | rfl | (simp [errW_none, errW_some] <;> rfl) | (simp [*, errW_none, errW_some] <;> rfl), by repeat (first | (with_reducible first | exact HB.out | apply below_alloc | apply pw_below_drewN | apply below_drew1) | exact HB.out)⟩
                    · rw [if_neg c41] at H
                      have c41b0 : ((x6_3 == 1) == t167) = false := by simpa using c41
                      (try (have c41b1 : decide ((x6_3 == 1) = t167) = false := by simpa using c41))
                      (try (have c41b2 : ((x6_3 == 1) == t167) = false := by simpa using c41))
                      (try (have c41b3 : ¬ ((x6_3 == 1) = t167) := by simpa using c41))
                      clear c41
                      obtain rfl := Option.some.inj H
                      go_wp2_with (first | ((with_reducible refine gate_callee (f := 14) rfl ?_); refine goesL_ (some 117) rfl rfl Try.func14 (by kernel_rfl) rfl #[.int .i64 a1] rfl (by (try simp only [List.map_toArray, List.map_cons, List.map_nil]); first | done | rfl | (simp only [List.length_drop, List.length_take]; rfl)) ?_; (with_reducible refine (word_Int.calls a1 t163 t164 _ A37.out).mono ?_); rintro e w' ⟨rfl, ⟨nd, rfl⟩⟩; refine ⟨_, rfl, ?_⟩) | ((with_reducible refine gate_callee (f := 15) rfl ?_); refine goesL_ (some 122) rfl rfl Try.func15 (by kernel_rfl) rfl #[.int .u64 t163] rfl (by (try simp only [List.map_toArray, List.map_cons, List.map_nil]); first | done | rfl | (simp only [List.length_drop, List.length_take]; rfl)) ?_; (with_reducible refine (word_ToInt.calls t163 t165 t166 _ A38.out).mono ?_); rintro e w' ⟨rfl, ⟨nd, rfl⟩⟩; refine ⟨_, rfl, ?_⟩) | (go_at_call 25; (with_reducible refine (word_May.calls k3 a0 t167 _ A40.out).mono ?_); rintro e w' ⟨rfl, ⟨nd, rfl⟩⟩))
                      go_ret
                      exact ⟨by first | rfl | (simp [errW_none, errW_some] <;> rfl) | (simp [*, errW_none, errW_some] <;> rfl), by repeat (first | (with_reducible first | exact HB.out | apply below_alloc | apply pw_below_drewN | apply below_drew1) | exact HB.out)⟩
                  · replace c39 := Bool.eq_false_iff.mpr c39
                    subst c39
                    have H1 : (some false) = some r := by rw [if_neg (show ¬ (false = true) by decide)] at H; exact H
                    clear H
                    have H := H1
                    clear H1
                    obtain rfl := Option.some.inj H
                    go_wp2_with (first | ((with_reducible refine gate_callee (f := 14) rfl ?_); refine goesL_ (some 117) rfl rfl Try.func14 (by kernel_rfl) rfl #[.int .i64 a1] rfl (by (try simp only [List.map_toArray, List.map_cons, List.map_nil]); first | done | rfl | (simp only [List.length_drop, List.length_take]; rfl)) ?_; (with_reducible refine (word_Int.calls a1 t163 t164 _ A37.out).mono ?_); rintro e w' ⟨rfl, ⟨nd, rfl⟩⟩; refine ⟨_, rfl, ?_⟩) | ((with_reducible refine gate_callee (f := 15) rfl ?_); refine goesL_ (some 122) rfl rfl Try.func15 (by kernel_rfl) rfl #[.int .u64 t163] rfl (by (try simp only [List.map_toArray, List.map_cons, List.map_nil]); first | done | rfl | (simp only [List.length_drop, List.length_take]; rfl)) ?_; (with_reducible refine (word_ToInt.calls t163 t165 t166 _ A38.out).mono ?_); rintro e w' ⟨rfl, ⟨nd, rfl⟩⟩; refine ⟨_, rfl, ?_⟩))
                    go_ret
                    exact ⟨by first | rfl | (simp [errW_none, errW_some] <;> rfl) | (simp [*, errW_none, errW_some] <;> rfl), by repeat (first | (with_reducible first | exact HB.out | apply below_alloc | apply pw_below_drewN | apply below_drew1) | exact HB.out)⟩

/-- THE ONE PURE STATEMENT of eddywheellaw01_WordOne: yours. -/
def eddywheellaw01_WordOne.Pure : Prop := ∀ (a0 : Int) (a1 : Int), (Lit.int .u64 a0).wf = true → (Lit.int .i64 a1).wf = true → ∃ k, eddywheellaw01_WordOne.f k a0 a1 = some true
theorem eddywheellaw01_WordOne.walk (P : eddywheellaw01_WordOne.Pure) (a0 : Int) (a1 : Int) (w : World) (w0 : (Lit.int .u64 a0).wf = true) (w1 : (Lit.int .i64 a1).wf = true) :
    Calls Try.prog 9 #[.int .u64 a0, .int .i64 a1] w fun e w' => e = .returned (.bool true) ∧ Below w.heap.size w w' := by
  obtain ⟨k, h⟩ := P a0 a1 w0 w1
  refine (eddywheellaw01_WordOne.calls k a0 a1 true w h).mono ?_
  rintro e w' ⟨rfl, hd⟩
  exact ⟨rfl, hd⟩

end Go.Proofs.Ytfabipoeollidaa.PWordOne

-- PRINTED BY print.sh 35421559b90ae4d0a3588c463048766b98c2df88dd9212a6774a882060cdf62d: not written by this session
import Derived.Test.YtfabipoeollidaaPWordOrdersx0
import Derived.Test.YtfabipoeollidaaPWordOrdersx1
namespace Go.Proofs.Ytfabipoeollidaa.PWordOrders
open Go.RowKit Go.Proofs.YtfabipoeollidaaW.PrintWords Go.Proofs.YtfabipoeollidaaW.PrintLast Go.Proofs.YtfabipoeollidaaW.PrintMore
attribute [local go_sem] max2_int min2_int max_two min_two max_three min_three max_four min_four   -- for this text's walks alone
set_option linter.unusedVariables false
set_option linter.unusedSimpArgs false

/-! ### eddywheellaw01_shown: function 13 -/
def eddywheellaw01_shown.f (k : Nat)  : Option (Bool) := (word_Int.f (-1)).bind fun bt123 => ((word_Int.f (-7)).bind fun bt125 => ((word_Int.f 2).bind fun bt127 => ((word_Do.f k 47 bt125.1 bt127.1).bind fun bt129 => ((word_Do.f k 37 bt125.1 bt127.1).bind fun bt131 => ((word_ToInt.f bt129.1).bind fun bt133 => ((word_ToInt.f bt131.1).bind fun bt135 => (if bt123.1 = 18446744073709551608 then (if bt123.2 = 0 then (if bt125.2 = 0 then (if bt127.2 = 0 then (if bt129.2 = 0 then (if bt131.2 = 0 then (if bt133.2 = true then (if bt135.2 = true then (if bt133.1 = (-3) then (some (bt135.1 == (-1))) else (some false)) else (some false)) else (some false)) else (some false)) else (some false)) else (some false)) else (some false)) else (some false)) else (some false))))))))
theorem eddywheellaw01_shown.mono : ∀ k, LeO (eddywheellaw01_shown.f k ) (eddywheellaw01_shown.f (k + 1) ) := by
  intro  k
  unfold eddywheellaw01_shown.f
  repeat' first
      | (with_reducible exact word_Do.mono _ _ _ _)
      | (with_reducible exact LeO.refl _)
      | (with_reducible exact LeO.none _)
      | (with_reducible refine LeO.ite ?_ ?_)
      | (with_reducible refine LeO.bind ?_ (fun _ => ?_))
      | exact word_Do.mono _ _ _ _
      | exact LeO.none _
      | refine LeO.ite ?_ ?_
      | refine LeO.bind ?_ (fun _ => ?_)
set_option maxHeartbeats 8000000 in
set_option maxRecDepth 100000 in
theorem eddywheellaw01_shown.calls (k : Nat)  (r : Bool) (w : World) (h : eddywheellaw01_shown.f k  = some r) :
    Calls Try.prog 13 #[] w fun e w' => e = .returned (.bool r) ∧ Below w.heap.size w w' := by
  have HB := Aside0.mk (Below.refl w.heap.size w)
  have H : ((word_Int.f (-1)).bind fun bt123 => ((word_Int.f (-7)).bind fun bt125 => ((word_Int.f 2).bind fun bt127 => ((word_Do.f k 47 bt125.1 bt127.1).bind fun bt129 => ((word_Do.f k 37 bt125.1 bt127.1).bind fun bt131 => ((word_ToInt.f bt129.1).bind fun bt133 => ((word_ToInt.f bt131.1).bind fun bt135 => (if bt123.1 = 18446744073709551608 then (if bt123.2 = 0 then (if bt125.2 = 0 then (if bt127.2 = 0 then (if bt129.2 = 0 then (if bt131.2 = 0 then (if bt133.2 = true then (if bt135.2 = true then (if bt133.1 = (-3) then (some (bt135.1 == (-1))) else (some false)) else (some false)) else (some false)) else (some false)) else (some false)) else (some false)) else (some false)) else (some false)) else (some false))))))))) = some r := h
  clear h
  replace H := Option.bind_eq_some_iff.mp H
  obtain ⟨⟨t123, t124⟩, A10, H⟩ := H
  replace H : ((word_Int.f (-7)).bind fun bt125 => ((word_Int.f 2).bind fun bt127 => ((word_Do.f k 47 bt125.1 bt127.1).bind fun bt129 => ((word_Do.f k 37 bt125.1 bt127.1).bind fun bt131 => ((word_ToInt.f bt129.1).bind fun bt133 => ((word_ToInt.f bt131.1).bind fun bt135 => (if t123 = 18446744073709551608 then (if t124 = 0 then (if bt125.2 = 0 then (if bt127.2 = 0 then (if bt129.2 = 0 then (if bt131.2 = 0 then (if bt133.2 = true then (if bt135.2 = true then (if bt133.1 = (-3) then (some (bt135.1 == (-1))) else (some false)) else (some false)) else (some false)) else (some false)) else (some false)) else (some false)) else (some false)) else (some false)) else (some false)))))))) = some r := H
  have A1 := Aside0.mk A10
  clear A10
  replace H := Option.bind_eq_some_iff.mp H
  obtain ⟨⟨t125, t126⟩, A20, H⟩ := H
  replace H : ((word_Int.f 2).bind fun bt127 => ((word_Do.f k 47 t125 bt127.1).bind fun bt129 => ((word_Do.f k 37 t125 bt127.1).bind fun bt131 => ((word_ToInt.f bt129.1).bind fun bt133 => ((word_ToInt.f bt131.1).bind fun bt135 => (if t123 = 18446744073709551608 then (if t124 = 0 then (if t126 = 0 then (if bt127.2 = 0 then (if bt129.2 = 0 then (if bt131.2 = 0 then (if bt133.2 = true then (if bt135.2 = true then (if bt133.1 = (-3) then (some (bt135.1 == (-1))) else (some false)) else (some false)) else (some false)) else (some false)) else (some false)) else (some false)) else (some false)) else (some false)) else (some false))))))) = some r := H
  have A2 := Aside0.mk A20
  clear A20
  replace H := Option.bind_eq_some_iff.mp H
  obtain ⟨⟨t127, t128⟩, A30, H⟩ := H
  replace H : ((word_Do.f k 47 t125 t127).bind fun bt129 => ((word_Do.f k 37 t125 t127).bind fun bt131 => ((word_ToInt.f bt129.1).bind fun bt133 => ((word_ToInt.f bt131.1).bind fun bt135 => (if t123 = 18446744073709551608 then (if t124 = 0 then (if t126 = 0 then (if t128 = 0 then (if bt129.2 = 0 then (if bt131.2 = 0 then (if bt133.2 = true then (if bt135.2 = true then (if bt133.1 = (-3) then (some (bt135.1 == (-1))) else (some false)) else (some false)) else (some false)) else (some false)) else (some false)) else (some false)) else (some false)) else (some false)) else (some false)))))) = some r := H
  have A3 := Aside0.mk A30
  clear A30
  replace H := Option.bind_eq_some_iff.mp H
  obtain ⟨⟨t129, t130⟩, A40, H⟩ := H
  replace H : ((word_Do.f k 37 t125 t127).bind fun bt131 => ((word_ToInt.f t129).bind fun bt133 => ((word_ToInt.f bt131.1).bind fun bt135 => (if t123 = 18446744073709551608 then (if t124 = 0 then (if t126 = 0 then (if t128 = 0 then (if t130 = 0 then (if bt131.2 = 0 then (if bt133.2 = true then (if bt135.2 = true then (if bt133.1 = (-3) then (some (bt135.1 == (-1))) else (some false)) else (some false)) else (some false)) else (some false)) else (some false)) else (some false)) else (some false)) else (some false)) else (some false))))) = some r := H
  have A4 := Aside0.mk A40
  clear A40
  replace H := Option.bind_eq_some_iff.mp H
  obtain ⟨⟨t131, t132⟩, A50, H⟩ := H
  replace H : ((word_ToInt.f t129).bind fun bt133 => ((word_ToInt.f t131).bind fun bt135 => (if t123 = 18446744073709551608 then (if t124 = 0 then (if t126 = 0 then (if t128 = 0 then (if t130 = 0 then (if t132 = 0 then (if bt133.2 = true then (if bt135.2 = true then (if bt133.1 = (-3) then (some (bt135.1 == (-1))) else (some false)) else (some false)) else (some false)) else (some false)) else (some false)) else (some false)) else (some false)) else (some false)) else (some false)))) = some r := H
  have A5 := Aside0.mk A50
  clear A50
  replace H := Option.bind_eq_some_iff.mp H
  obtain ⟨⟨t133, t134⟩, A60, H⟩ := H
  replace H : ((word_ToInt.f t131).bind fun bt135 => (if t123 = 18446744073709551608 then (if t124 = 0 then (if t126 = 0 then (if t128 = 0 then (if t130 = 0 then (if t132 = 0 then (if t134 = true then (if bt135.2 = true then (if t133 = (-3) then (some (bt135.1 == (-1))) else (some false)) else (some false)) else (some false)) else (some false)) else (some false)) else (some false)) else (some false)) else (some false)) else (some false))) = some r := H
  have A6 := Aside0.mk A60
  clear A60
  replace H := Option.bind_eq_some_iff.mp H
  obtain ⟨⟨t135, t136⟩, A70, H⟩ := H
  replace H : (if t123 = 18446744073709551608 then (if t124 = 0 then (if t126 = 0 then (if t128 = 0 then (if t130 = 0 then (if t132 = 0 then (if t134 = true then (if t136 = true then (if t133 = (-3) then (some (t135 == (-1))) else (some false)) else (some false)) else (some false)) else (some false)) else (some false)) else (some false)) else (some false)) else (some false)) else (some false)) = some r := H
  have A7 := Aside0.mk A70
  clear A70
  by_cases c8 : t123 = 18446744073709551608
  · rw [if_pos c8] at H
    have c8b0 : (t123 == 18446744073709551608) = true := beq_iff_eq.mpr c8
    have c8b1 : (t123 != 18446744073709551608) = false := bne_eq_false_iff_eq.mpr c8
    clear c8
    by_cases c9 : t124 = 0
    · rw [if_pos c9] at H
      have c9b0 : (t124 == 0) = true := beq_iff_eq.mpr c9
      have c9b1 : (t124 != 0) = false := bne_eq_false_iff_eq.mpr c9
      clear c9
      by_cases c10 : t126 = 0
      · rw [if_pos c10] at H
        have c10b0 : (t126 == 0) = true := beq_iff_eq.mpr c10
        have c10b1 : (t126 != 0) = false := bne_eq_false_iff_eq.mpr c10
        clear c10
        by_cases c11 : t128 = 0
        · rw [if_pos c11] at H
          have c11b0 : (t128 == 0) = true := beq_iff_eq.mpr c11
          have c11b1 : (t128 != 0) = false := bne_eq_false_iff_eq.mpr c11
          clear c11
          by_cases c12 : t130 = 0
          · rw [if_pos c12] at H
            have c12b0 : (t130 == 0) = true := beq_iff_eq.mpr c12
            have c12b1 : (t130 != 0) = false := bne_eq_false_iff_eq.mpr c12
            clear c12
            by_cases c13 : t132 = 0
            · rw [if_pos c13] at H
              have c13b0 : (t132 == 0) = true := beq_iff_eq.mpr c13
              have c13b1 : (t132 != 0) = false := bne_eq_false_iff_eq.mpr c13
              clear c13
              by_cases c14 : t134 = true
              · subst c14
                have H1 : (if t136 = true then (if t133 = (-3) then (some (t135 == (-1))) else (some false)) else (some false)) = some r := by rw [if_pos rfl] at H; exact H
                clear H
                have H := H1
                clear H1
                by_cases c15 : t136 = true
                · subst c15
                  have H1 : (if t133 = (-3) then (some (t135 == (-1))) else (some false)) = some r := by rw [if_pos rfl] at H; exact H
                  clear H
                  have H := H1
                  clear H1
                  by_cases c16 : t133 = (-3)
                  · rw [if_pos c16] at H
                    have c16b0 : (t133 == (-3)) = true := beq_iff_eq.mpr c16
                    have c16b1 : (t133 != (-3)) = false := bne_eq_false_iff_eq.mpr c16
                    clear c16
                    obtain rfl := Option.some.inj H
                    go_enter Try.func13, Try.ntmps13
                    go_wp2_with (first | ((with_reducible refine gate_callee (f := 14) rfl ?_); refine goesL_ (some 16) rfl rfl Try.func14 (by kernel_rfl) rfl #[.int .i64 (-1)] rfl (by (try simp only [List.map_toArray, List.map_cons, List.map_nil]); first | done | rfl | (simp only [List.length_drop, List.length_take]; rfl)) ?_; (with_reducible refine (word_Int.calls (-1) t123 t124 _ A1.out).mono ?_); rintro e w' ⟨rfl, ⟨nd, rfl⟩⟩; refine ⟨_, rfl, ?_⟩) | ((with_reducible refine gate_callee (f := 14) rfl ?_); refine goesL_ (some 20) rfl rfl Try.func14 (by kernel_rfl) rfl #[.int .i64 (-7)] rfl (by (try simp only [List.map_toArray, List.map_cons, List.map_nil]); first | done | rfl | (simp only [List.length_drop, List.length_take]; rfl)) ?_; (with_reducible refine (word_Int.calls (-7) t125 t126 _ A2.out).mono ?_); rintro e w' ⟨rfl, ⟨nd, rfl⟩⟩; refine ⟨_, rfl, ?_⟩) | ((with_reducible refine gate_callee (f := 14) rfl ?_); refine goesL_ (some 24) rfl rfl Try.func14 (by kernel_rfl) rfl #[.int .i64 2] rfl (by (try simp only [List.map_toArray, List.map_cons, List.map_nil]); first | done | rfl | (simp only [List.length_drop, List.length_take]; rfl)) ?_; (with_reducible refine (word_Int.calls 2 t127 t128 _ A3.out).mono ?_); rintro e w' ⟨rfl, ⟨nd, rfl⟩⟩; refine ⟨_, rfl, ?_⟩) | ((with_reducible refine gate_callee (f := 11) rfl ?_); refine goesL_ (some 30) rfl rfl Try.func11 (by kernel_rfl) rfl #[.int .u8 47, .int .u64 t125, .int .u64 t127] rfl (by (try simp only [List.map_toArray, List.map_cons, List.map_nil]); first | done | rfl | (simp only [List.length_drop, List.length_take]; rfl)) ?_; (with_reducible refine (word_Do.calls k 47 t125 t127 t129 t130 _ A4.out).mono ?_); rintro e w17 ⟨rfl, hb⟩; refine ⟨_, rfl, ?_⟩; have n0_ := Aside0.mk (below_step (by repeat (first | (with_reducible first | exact HB.out | apply below_alloc | apply pw_below_drewN | apply below_drew1) | exact HB.out)) hb); clear HB; have HB := n0_; clear n0_; (try clear hb); (try clear hb2); (try clear hk); (try clear hi)) | ((with_reducible refine gate_callee (f := 11) rfl ?_); refine goesL_ (some 36) rfl rfl Try.func11 (by kernel_rfl) rfl #[.int .u8 37, .int .u64 t125, .int .u64 t127] rfl (by (try simp only [List.map_toArray, List.map_cons, List.map_nil]); first | done | rfl | (simp only [List.length_drop, List.length_take]; rfl)) ?_; (with_reducible refine (word_Do.calls k 37 t125 t127 t131 t132 _ A5.out).mono ?_); rintro e w18 ⟨rfl, hb⟩; refine ⟨_, rfl, ?_⟩; have n0_ := Aside0.mk (below_step (by repeat (first | (with_reducible first | exact HB.out | apply below_alloc | apply pw_below_drewN | apply below_drew1) | exact HB.out)) hb); clear HB; have HB := n0_; clear n0_; (try clear hb); (try clear hb2); (try clear hk); (try clear hi)) | ((with_reducible refine gate_callee (f := 15) rfl ?_); refine goesL_ (some 41) rfl rfl Try.func15 (by kernel_rfl) rfl #[.int .u64 t129] rfl (by (try simp only [List.map_toArray, List.map_cons, List.map_nil]); first | done | rfl | (simp only [List.length_drop, List.length_take]; rfl)) ?_; (with_reducible refine (word_ToInt.calls t129 t133 true _ A6.out).mono ?_); rintro e w' ⟨rfl, ⟨nd, rfl⟩⟩; refine ⟨_, rfl, ?_⟩) | ((with_reducible refine gate_callee (f := 15) rfl ?_); refine goesL_ (some 46) rfl rfl Try.func15 (by kernel_rfl) rfl #[.int .u64 t131] rfl (by (try simp only [List.map_toArray, List.map_cons, List.map_nil]); first | done | rfl | (simp only [List.length_drop, List.length_take]; rfl)) ?_; (with_reducible refine (word_ToInt.calls t131 t135 true _ A7.out).mono ?_); rintro e w' ⟨rfl, ⟨nd, rfl⟩⟩; refine ⟨_, rfl, ?_⟩))
                    go_ret
                    exact ⟨by first | rfl | (simp [errW_none, errW_some] <;> rfl) | (simp [*, errW_none, errW_some] <;> rfl), by repeat (first | (with_reducible first | exact HB.out | apply below_alloc | apply pw_below_drewN | apply below_drew1) | exact HB.out)⟩
                  · rw [if_neg c16] at H
                    have c16b0 : (t133 == (-3)) = false := beq_eq_false_iff_ne.mpr c16
                    have c16b1 : (t133 != (-3)) = true := bne_iff_ne.mpr c16
                    obtain rfl := Option.some.inj H
                    go_enter Try.func13, Try.ntmps13
                    go_wp2_with (first | ((with_reducible refine gate_callee (f := 14) rfl ?_); refine goesL_ (some 16) rfl rfl Try.func14 (by kernel_rfl) rfl #[.int .i64 (-1)] rfl (by (try simp only [List.map_toArray, List.map_cons, List.map_nil]); first | done | rfl | (simp only [List.length_drop, List.length_take]; rfl)) ?_; (with_reducible refine (word_Int.calls (-1) t123 t124 _ A1.out).mono ?_); rintro e w' ⟨rfl, ⟨nd, rfl⟩⟩; refine ⟨_, rfl, ?_⟩) | ((with_reducible refine gate_callee (f := 14) rfl ?_); refine goesL_ (some 20) rfl rfl Try.func14 (by kernel_rfl) rfl #[.int .i64 (-7)] rfl (by (try simp only [List.map_toArray, List.map_cons, List.map_nil]); first | done | rfl | (simp only [List.length_drop, List.length_take]; rfl)) ?_; (with_reducible refine (word_Int.calls (-7) t125 t126 _ A2.out).mono ?_); rintro e w' ⟨rfl, ⟨nd, rfl⟩⟩; refine ⟨_, rfl, ?_⟩) | ((with_reducible refine gate_callee (f := 14) rfl ?_); refine goesL_ (some 24) rfl rfl Try.func14 (by kernel_rfl) rfl #[.int .i64 2] rfl (by (try simp only [List.map_toArray, List.map_cons, List.map_nil]); first | done | rfl | (simp only [List.length_drop, List.length_take]; rfl)) ?_; (with_reducible refine (word_Int.calls 2 t127 t128 _ A3.out).mono ?_); rintro e w' ⟨rfl, ⟨nd, rfl⟩⟩; refine ⟨_, rfl, ?_⟩) | ((with_reducible refine gate_callee (f := 11) rfl ?_); refine goesL_ (some 30) rfl rfl Try.func11 (by kernel_rfl) rfl #[.int .u8 47, .int .u64 t125, .int .u64 t127] rfl (by (try simp only [List.map_toArray, List.map_cons, List.map_nil]); first | done | rfl | (simp only [List.length_drop, List.length_take]; rfl)) ?_; (with_reducible refine (word_Do.calls k 47 t125 t127 t129 t130 _ A4.out).mono ?_); rintro e w19 ⟨rfl, hb⟩; refine ⟨_, rfl, ?_⟩; have n0_ := Aside0.mk (below_step (by repeat (first | (with_reducible first | exact HB.out | apply below_alloc | apply pw_below_drewN | apply below_drew1) | exact HB.out)) hb); clear HB; have HB := n0_; clear n0_; (try clear hb); (try clear hb2); (try clear hk); (try clear hi)) | ((with_reducible refine gate_callee (f := 11) rfl ?_); refine goesL_ (some 36) rfl rfl Try.func11 (by kernel_rfl) rfl #[.int .u8 37, .int .u64 t125, .int .u64 t127] rfl (by (try simp only [List.map_toArray, List.map_cons, List.map_nil]); first | done | rfl | (simp only [List.length_drop, List.length_take]; rfl)) ?_; (with_reducible refine (word_Do.calls k 37 t125 t127 t131 t132 _ A5.out).mono ?_); rintro e w20 ⟨rfl, hb⟩; refine ⟨_, rfl, ?_⟩; have n0_ := Aside0.mk (below_step (by repeat (first | (with_reducible first | exact HB.out | apply below_alloc | apply pw_below_drewN | apply below_drew1) | exact HB.out)) hb); clear HB; have HB := n0_; clear n0_; (try clear hb); (try clear hb2); (try clear hk); (try clear hi)) | ((with_reducible refine gate_callee (f := 15) rfl ?_); refine goesL_ (some 41) rfl rfl Try.func15 (by kernel_rfl) rfl #[.int .u64 t129] rfl (by (try simp only [List.map_toArray, List.map_cons, List.map_nil]); first | done | rfl | (simp only [List.length_drop, List.length_take]; rfl)) ?_; (with_reducible refine (word_ToInt.calls t129 t133 true _ A6.out).mono ?_); rintro e w' ⟨rfl, ⟨nd, rfl⟩⟩; refine ⟨_, rfl, ?_⟩) | ((with_reducible refine gate_callee (f := 15) rfl ?_); refine goesL_ (some 46) rfl rfl Try.func15 (by kernel_rfl) rfl #[.int .u64 t131] rfl (by (try simp only [List.map_toArray, List.map_cons, List.map_nil]); first | done | rfl | (simp only [List.length_drop, List.length_take]; rfl)) ?_; (with_reducible refine (word_ToInt.calls t131 t135 true _ A7.out).mono ?_); rintro e w' ⟨rfl, ⟨nd, rfl⟩⟩; refine ⟨_, rfl, ?_⟩))
                    go_ret
                    exact ⟨by first | rfl | (simp [errW_none, errW_some] <;> rfl) | (simp [*, errW_none, errW_some] <;> rfl), by repeat (first | (with_reducible first | exact HB.out | apply below_alloc | apply pw_below_drewN | apply below_drew1) | exact HB.out)⟩
                · replace c15 := Bool.eq_false_iff.mpr c15
                  subst c15
                  have H1 : (some false) = some r := by rw [if_neg (show ¬ (false = true) by decide)] at H; exact H
                  clear H
                  have H := H1
                  clear H1
                  obtain rfl := Option.some.inj H
                  go_enter Try.func13, Try.ntmps13
                  go_wp2_with (first | ((with_reducible refine gate_callee (f := 14) rfl ?_); refine goesL_ (some 16) rfl rfl Try.func14 (by kernel_rfl) rfl #[.int .i64 (-1)] rfl (by (try simp only [List.map_toArray, List.map_cons, List.map_nil]); first | done | rfl | (simp only [List.length_drop, List.length_take]; rfl)) ?_; (with_reducible refine (word_Int.calls (-1) t123 t124 _ A1.out).mono ?_); rintro e w' ⟨rfl, ⟨nd, rfl⟩⟩; refine ⟨_, rfl, ?_⟩) | ((with_reducible refine gate_callee (f := 14) rfl ?_); refine goesL_ (some 20) rfl rfl Try.func14 (by kernel_rfl) rfl #[.int .i64 (-7)] rfl (by (try simp only [List.map_toArray, List.map_cons, List.map_nil]); first | done | rfl | (simp only [List.length_drop, List.length_take]; rfl)) ?_; (with_reducible refine (word_Int.calls (-7) t125 t126 _ A2.out).mono ?_); rintro e w' ⟨rfl, ⟨nd, rfl⟩⟩; refine ⟨_, rfl, ?_⟩) | ((with_reducible refine gate_callee (f := 14) rfl ?_); refine goesL_ (some 24) rfl rfl Try.func14 (by kernel_rfl) rfl #[.int .i64 2] rfl (by (try simp only [List.map_toArray, List.map_cons, List.map_nil]); first | done | rfl | (simp only [List.length_drop, List.length_take]; rfl)) ?_; (with_reducible refine (word_Int.calls 2 t127 t128 _ A3.out).mono ?_); rintro e w' ⟨rfl, ⟨nd, rfl⟩⟩; refine ⟨_, rfl, ?_⟩) | ((with_reducible refine gate_callee (f := 11) rfl ?_); refine goesL_ (some 30) rfl rfl Try.func11 (by kernel_rfl) rfl #[.int .u8 47, .int .u64 t125, .int .u64 t127] rfl (by (try simp only [List.map_toArray, List.map_cons, List.map_nil]); first | done | rfl | (simp only [List.length_drop, List.length_take]; rfl)) ?_; (with_reducible refine (word_Do.calls k 47 t125 t127 t129 t130 _ A4.out).mono ?_); rintro e w21 ⟨rfl, hb⟩; refine ⟨_, rfl, ?_⟩; have n0_ := Aside0.mk (below_step (by repeat (first | (with_reducible first | exact HB.out | apply below_alloc | apply pw_below_drewN | apply below_drew1) | exact HB.out)) hb); clear HB; have HB := n0_; clear n0_; (try clear hb); (try clear hb2); (try clear hk); (try clear hi)) | ((with_reducible refine gate_callee (f := 11) rfl ?_); refine goesL_ (some 36) rfl rfl Try.func11 (by kernel_rfl) rfl #[.int .u8 37, .int .u64 t125, .int .u64 t127] rfl (by (try simp only [List.map_toArray, List.map_cons, List.map_nil]); first | done | rfl | (simp only [List.length_drop, List.length_take]; rfl)) ?_; (with_reducible refine (word_Do.calls k 37 t125 t127 t131 t132 _ A5.out).mono ?_); rintro e w22 ⟨rfl, hb⟩; refine ⟨_, rfl, ?_⟩; have n0_ := Aside0.mk (below_step (by repeat (first | (with_reducible first | exact HB.out | apply below_alloc | apply pw_below_drewN | apply below_drew1) | exact HB.out)) hb); clear HB; have HB := n0_; clear n0_; (try clear hb); (try clear hb2); (try clear hk); (try clear hi)) | ((with_reducible refine gate_callee (f := 15) rfl ?_); refine goesL_ (some 41) rfl rfl Try.func15 (by kernel_rfl) rfl #[.int .u64 t129] rfl (by (try simp only [List.map_toArray, List.map_cons, List.map_nil]); first | done | rfl | (simp only [List.length_drop, List.length_take]; rfl)) ?_; (with_reducible refine (word_ToInt.calls t129 t133 true _ A6.out).mono ?_); rintro e w' ⟨rfl, ⟨nd, rfl⟩⟩; refine ⟨_, rfl, ?_⟩) | ((with_reducible refine gate_callee (f := 15) rfl ?_); refine goesL_ (some 46) rfl rfl Try.func15 (by kernel_rfl) rfl #[.int .u64 t131] rfl (by (try simp only [List.map_toArray, List.map_cons, List.map_nil]); first | done | rfl | (simp only [List.length_drop, List.length_take]; rfl)) ?_; (with_reducible refine (word_ToInt.calls t131 t135 false _ A7.out).mono ?_); rintro e w' ⟨rfl, ⟨nd, rfl⟩⟩; refine ⟨_, rfl, ?_⟩))
                  go_ret
                  exact ⟨by first | rfl | (simp [errW_none, errW_some] <;> rfl) | (simp [*, errW_none, errW_some] <;> rfl), by repeat (first | (with_reducible first | exact HB.out | apply below_alloc | apply pw_below_drewN | apply below_drew1) | exact HB.out)⟩
              · replace c14 := Bool.eq_false_iff.mpr c14
                subst c14
                have H1 : (some false) = some r := by rw [if_neg (show ¬ (false = true) by decide)] at H; exact H
                clear H
                have H := H1
                clear H1
                obtain rfl := Option.some.inj H
                go_enter Try.func13, Try.ntmps13
                go_wp2_with (first | ((with_reducible refine gate_callee (f := 14) rfl ?_); refine goesL_ (some 16) rfl rfl Try.func14 (by kernel_rfl) rfl #[.int .i64 (-1)] rfl (by (try simp only [List.map_toArray, List.map_cons, List.map_nil]); first | done | rfl | (simp only [List.length_drop, List.length_take]; rfl)) ?_; (with_reducible refine (word_Int.calls (-1) t123 t124 _ A1.out).mono ?_); rintro e w' ⟨rfl, ⟨nd, rfl⟩⟩; refine ⟨_, rfl, ?_⟩) | ((with_reducible refine gate_callee (f := 14) rfl ?_); refine goesL_ (some 20) rfl rfl Try.func14 (by kernel_rfl) rfl #[.int .i64 (-7)] rfl (by (try simp only [List.map_toArray, List.map_cons, List.map_nil]); first | done | rfl | (simp only [List.length_drop, List.length_take]; rfl)) ?_; (with_reducible refine (word_Int.calls (-7) t125 t126 _ A2.out).mono ?_); rintro e w' ⟨rfl, ⟨nd, rfl⟩⟩; refine ⟨_, rfl, ?_⟩) | ((with_reducible refine gate_callee (f := 14) rfl ?_); refine goesL_ (some 24) rfl rfl Try.func14 (by kernel_rfl) rfl #[.int .i64 2] rfl (by (try simp only [List.map_toArray, List.map_cons, List.map_nil]); first | done | rfl | (simp only [List.length_drop, List.length_take]; rfl)) ?_; (with_reducible refine (word_Int.calls 2 t127 t128 _ A3.out).mono ?_); rintro e w' ⟨rfl, ⟨nd, rfl⟩⟩; refine ⟨_, rfl, ?_⟩) | ((with_reducible refine gate_callee (f := 11) rfl ?_); refine goesL_ (some 30) rfl rfl Try.func11 (by kernel_rfl) rfl #[.int .u8 47, .int .u64 t125, .int .u64 t127] rfl (by (try simp only [List.map_toArray, List.map_cons, List.map_nil]); first | done | rfl | (simp only [List.length_drop, List.length_take]; rfl)) ?_; (with_reducible refine (word_Do.calls k 47 t125 t127 t129 t130 _ A4.out).mono ?_); rintro e w23 ⟨rfl, hb⟩; refine ⟨_, rfl, ?_⟩; have n0_ := Aside0.mk (below_step (by repeat (first | (with_reducible first | exact HB.out | apply below_alloc | apply pw_below_drewN | apply below_drew1) | exact HB.out)) hb); clear HB; have HB := n0_; clear n0_; (try clear hb); (try clear hb2); (try clear hk); (try clear hi)) | ((with_reducible refine gate_callee (f := 11) rfl ?_); refine goesL_ (some 36) rfl rfl Try.func11 (by kernel_rfl) rfl #[.int .u8 37, .int .u64 t125, .int .u64 t127] rfl (by (try simp only [List.map_toArray, List.map_cons, List.map_nil]); first | done | rfl | (simp only [List.length_drop, List.length_take]; rfl)) ?_; (with_reducible refine (word_Do.calls k 37 t125 t127 t131 t132 _ A5.out).mono ?_); rintro e w24 ⟨rfl, hb⟩; refine ⟨_, rfl, ?_⟩; have n0_ := Aside0.mk (below_step (by repeat (first | (with_reducible first | exact HB.out | apply below_alloc | apply pw_below_drewN | apply below_drew1) | exact HB.out)) hb); clear HB; have HB := n0_; clear n0_; (try clear hb); (try clear hb2); (try clear hk); (try clear hi)) | ((with_reducible refine gate_callee (f := 15) rfl ?_); refine goesL_ (some 41) rfl rfl Try.func15 (by kernel_rfl) rfl #[.int .u64 t129] rfl (by (try simp only [List.map_toArray, List.map_cons, List.map_nil]); first | done | rfl | (simp only [List.length_drop, List.length_take]; rfl)) ?_; (with_reducible refine (word_ToInt.calls t129 t133 false _ A6.out).mono ?_); rintro e w' ⟨rfl, ⟨nd, rfl⟩⟩; refine ⟨_, rfl, ?_⟩) | ((with_reducible refine gate_callee (f := 15) rfl ?_); refine goesL_ (some 46) rfl rfl Try.func15 (by kernel_rfl) rfl #[.int .u64 t131] rfl (by (try simp only [List.map_toArray, List.map_cons, List.map_nil]); first | done | rfl | (simp only [List.length_drop, List.length_take]; rfl)) ?_; (with_reducible refine (word_ToInt.calls t131 t135 t136 _ A7.out).mono ?_); rintro e w' ⟨rfl, ⟨nd, rfl⟩⟩; refine ⟨_, rfl, ?_⟩))
                go_ret
                exact ⟨by first | rfl | (simp [errW_none, errW_some] <;> rfl) | (simp [*, errW_none, errW_some] <;> rfl), by repeat (first | (with_reducible first | exact HB.out | apply below_alloc | apply pw_below_drewN | apply below_drew1) | exact HB.out)⟩
            · rw [if_neg c13] at H
              have c13b0 : (t132 == 0) = false := beq_eq_false_iff_ne.mpr c13
              have c13b1 : (t132 != 0) = true := bne_iff_ne.mpr c13
              obtain rfl := Option.some.inj H
              go_enter Try.func13, Try.ntmps13
              go_wp2_with (first | ((with_reducible refine gate_callee (f := 14) rfl ?_); refine goesL_ (some 16) rfl rfl Try.func14 (by kernel_rfl) rfl #[.int .i64 (-1)] rfl (by (try simp only [List.map_toArray, List.map_cons, List.map_nil]); first | done | rfl | (simp only [List.length_drop, List.length_take]; rfl)) ?_; (with_reducible refine (word_Int.calls (-1) t123 t124 _ A1.out).mono ?_); rintro e w' ⟨rfl, ⟨nd, rfl⟩⟩; refine ⟨_, rfl, ?_⟩) | ((with_reducible refine gate_callee (f := 14) rfl ?_); refine goesL_ (some 20) rfl rfl Try.func14 (by kernel_rfl) rfl #[.int .i64 (-7)] rfl (by (try simp only [List.map_toArray, List.map_cons, List.map_nil]); first | done | rfl | (simp only [List.length_drop, List.length_take]; rfl)) ?_; (with_reducible refine (word_Int.calls (-7) t125 t126 _ A2.out).mono ?_); rintro e w' ⟨rfl, ⟨nd, rfl⟩⟩; refine ⟨_, rfl, ?_⟩) | ((with_reducible refine gate_callee (f := 14) rfl ?_); refine goesL_ (some 24) rfl rfl Try.func14 (by kernel_rfl) rfl #[.int .i64 2] rfl (by (try simp only [List.map_toArray, List.map_cons, List.map_nil]); first | done | rfl | (simp only [List.length_drop, List.length_take]; rfl)) ?_; (with_reducible refine (word_Int.calls 2 t127 t128 _ A3.out).mono ?_); rintro e w' ⟨rfl, ⟨nd, rfl⟩⟩; refine ⟨_, rfl, ?_⟩) | ((with_reducible refine gate_callee (f := 11) rfl ?_); refine goesL_ (some 30) rfl rfl Try.func11 (by kernel_rfl) rfl #[.int .u8 47, .int .u64 t125, .int .u64 t127] rfl (by (try simp only [List.map_toArray, List.map_cons, List.map_nil]); first | done | rfl | (simp only [List.length_drop, List.length_take]; rfl)) ?_; (with_reducible refine (word_Do.calls k 47 t125 t127 t129 t130 _ A4.out).mono ?_); rintro e w25 ⟨rfl, hb⟩; refine ⟨_, rfl, ?_⟩; have n0_ := Aside0.mk (below_step (by repeat (first | (with_reducible first | exact HB.out | apply below_alloc | apply pw_below_drewN | apply below_drew1) | exact HB.out)) hb); clear HB; have HB := n0_; clear n0_; (try clear hb); (try clear hb2); (try clear hk); (try clear hi)) | ((with_reducible refine gate_callee (f := 11) rfl ?_); refine goesL_ (some 36) rfl rfl Try.func11 (by kernel_rfl) rfl #[.int .u8 37, .int .u64 t125, .int .u64 t127] rfl (by (try simp only [List.map_toArray, List.map_cons, List.map_nil]); first | done | rfl | (simp only [List.length_drop, List.length_take]; rfl)) ?_; (with_reducible refine (word_Do.calls k 37 t125 t127 t131 t132 _ A5.out).mono ?_); rintro e w26 ⟨rfl, hb⟩; refine ⟨_, rfl, ?_⟩; have n0_ := Aside0.mk (below_step (by repeat (first | (with_reducible first | exact HB.out | apply below_alloc | apply pw_below_drewN | apply below_drew1) | exact HB.out)) hb); clear HB; have HB := n0_; clear n0_; (try clear hb); (try clear hb2); (try clear hk); (try clear hi)) | ((with_reducible refine gate_callee (f := 15) rfl ?_); refine goesL_ (some 41) rfl rfl Try.func15 (by kernel_rfl) rfl #[.int .u64 t129] rfl (by (try simp only [List.map_toArray, List.map_cons, List.map_nil]); first | done | rfl | (simp only [List.length_drop, List.length_take]; rfl)) ?_; (with_reducible refine (word_ToInt.calls t129 t133 t134 _ A6.out).mono ?_); rintro e w' ⟨rfl, ⟨nd, rfl⟩⟩; refine ⟨_, rfl, ?_⟩) | ((with_reducible refine gate_callee (f := 15) rfl ?_); refine goesL_ (some 46) rfl rfl Try.func15 (by kernel_rfl) rfl #[.int .u64 t131] rfl (by (try simp only [List.map_toArray, List.map_cons, List.map_nil]); first | done | rfl | (simp only [List.length_drop, List.length_take]; rfl)) ?_; (with_reducible refine (word_ToInt.calls t131 t135 t136 _ A7.out).mono ?_); rintro e w' ⟨rfl, ⟨nd, rfl⟩⟩; refine ⟨_, rfl, ?_⟩))
              go_ret
              exact ⟨by first | rfl | (simp [errW_none, errW_some] <;> rfl) | (simp [*, errW_none, errW_some] <;> rfl), by repeat (first | (with_reducible first | exact HB.out | apply below_alloc | apply pw_below_drewN | apply below_drew1) | exact HB.out)⟩
          · rw [if_neg c12] at H
            have c12b0 : (t130 == 0) = false := beq_eq_false_iff_ne.mpr c12
            have c12b1 : (t130 != 0) = true := bne_iff_ne.mpr c12
            obtain rfl := Option.some.inj H
            go_enter Try.func13, Try.ntmps13
            go_wp2_with (first | ((with_reducible refine gate_callee (f := 14) rfl ?_); refine goesL_ (some 16) rfl rfl Try.func14 (by kernel_rfl) rfl #[.int .i64 (-1)] rfl (by (try simp only [List.map_toArray, List.map_cons, List.map_nil]); first | done | rfl | (simp only [List.length_drop, List.length_take]; rfl)) ?_; (with_reducible refine (word_Int.calls (-1) t123 t124 _ A1.out).mono ?_); rintro e w' ⟨rfl, ⟨nd, rfl⟩⟩; refine ⟨_, rfl, ?_⟩) | ((with_reducible refine gate_callee (f := 14) rfl ?_); refine goesL_ (some 20) rfl rfl Try.func14 (by kernel_rfl) rfl #[.int .i64 (-7)] rfl (by (try simp only [List.map_toArray, List.map_cons, List.map_nil]); first | done | rfl | (simp only [List.length_drop, List.length_take]; rfl)) ?_; (with_reducible refine (word_Int.calls (-7) t125 t126 _ A2.out).mono ?_); rintro e w' ⟨rfl, ⟨nd, rfl⟩⟩; refine ⟨_, rfl, ?_⟩) | ((with_reducible refine gate_callee (f := 14) rfl ?_); refine goesL_ (some 24) rfl rfl Try.func14 (by kernel_rfl) rfl #[.int .i64 2] rfl (by (try simp only [List.map_toArray, List.map_cons, List.map_nil]); first | done | rfl | (simp only [List.length_drop, List.length_take]; rfl)) ?_; (with_reducible refine (word_Int.calls 2 t127 t128 _ A3.out).mono ?_); rintro e w' ⟨rfl, ⟨nd, rfl⟩⟩; refine ⟨_, rfl, ?_⟩) | ((with_reducible refine gate_callee (f := 11) rfl ?_); refine goesL_ (some 30) rfl rfl Try.func11 (by kernel_rfl) rfl #[.int .u8 47, .int .u64 t125, .int .u64 t127] rfl (by (try simp only [List.map_toArray, List.map_cons, List.map_nil]); first | done | rfl | (simp only [List.length_drop, List.length_take]; rfl)) ?_; (with_reducible refine (word_Do.calls k 47 t125 t127 t129 t130 _ A4.out).mono ?_); rintro e w27 ⟨rfl, hb⟩; refine ⟨_, rfl, ?_⟩; have n0_ := Aside0.mk (below_step (by repeat (first | (with_reducible first | exact HB.out | apply below_alloc | apply pw_below_drewN | apply below_drew1) | exact HB.out)) hb); clear HB; have HB := n0_; clear n0_; (try clear hb); (try clear hb2); (try clear hk); (try clear hi)) | ((with_reducible refine gate_callee (f := 11) rfl ?_); refine goesL_ (some 36) rfl rfl Try.func11 (by kernel_rfl) rfl #[.int .u8 37, .int .u64 t125, .int .u64 t127] rfl (by (try simp only [List.map_toArray, List.map_cons, List.map_nil]); first | done | rfl | (simp only [List.length_drop, List.length_take]; rfl)) ?_; (with_reducible refine (word_Do.calls k 37 t125 t127 t131 t132 _ A5.out).mono ?_); rintro e w28 ⟨rfl, hb⟩; refine ⟨_, rfl, ?_⟩; have n0_ := Aside0.mk (below_step (by repeat (first | (with_reducible first | exact HB.out | apply below_alloc | apply pw_below_drewN | apply below_drew1) | exact HB.out)) hb); clear HB; have HB := n0_; clear n0_; (try clear hb); (try clear hb2); (try clear hk); (try clear hi)) | ((with_reducible refine gate_callee (f := 15) rfl ?_); refine goesL_ (some 41) rfl rfl Try.func15 (by kernel_rfl) rfl #[.int .u64 t129] rfl (by (try simp only [List.map_toArray, List.map_cons, List.map_nil]); first | done | rfl | (simp only [List.length_drop, List.length_take]; rfl)) ?_; (with_reducible refine (word_ToInt.calls t129 t133 t134 _ A6.out).mono ?_); rintro e w' ⟨rfl, ⟨nd, rfl⟩⟩; refine ⟨_, rfl, ?_⟩) | ((with_reducible refine gate_callee (f := 15) rfl ?_); refine goesL_ (some 46) rfl rfl Try.func15 (by kernel_rfl) rfl #[.int .u64 t131] rfl (by (try simp only [List.map_toArray, List.map_cons, List.map_nil]); first | done | rfl | (simp only [List.length_drop, List.length_take]; rfl)) ?_; (with_reducible refine (word_ToInt.calls t131 t135 t136 _ A7.out).mono ?_); rintro e w' ⟨rfl, ⟨nd, rfl⟩⟩; refine ⟨_, rfl, ?_⟩))
            go_ret
            exact ⟨by first | rfl | (simp [errW_none, errW_some] <;> rfl) | (simp [*, errW_none, errW_some] <;> rfl), by repeat (first | (with_reducible first | exact HB.out | apply below_alloc | apply pw_below_drewN | apply below_drew1) | exact HB.out)⟩
        · rw [if_neg c11] at H
          have c11b0 : (t128 == 0) = false := beq_eq_false_iff_ne.mpr c11
          have c11b1 : (t128 != 0) = true := bne_iff_ne.mpr c11
          obtain rfl := Option.some.inj H
          go_enter Try.func13, Try.ntmps13
          go_wp2_with (first | ((with_reducible refine gate_callee (f := 14) rfl ?_); refine goesL_ (some 16) rfl rfl Try.func14 (by kernel_rfl) rfl #[.int .i64 (-1)] rfl (by (try simp only [List.map_toArray, List.map_cons, List.map_nil]); first | done | rfl | (simp only [List.length_drop, List.length_take]; rfl)) ?_; (with_reducible refine (word_Int.calls (-1) t123 t124 _ A1.out).mono ?_); rintro e w' ⟨rfl, ⟨nd, rfl⟩⟩; refine ⟨_, rfl, ?_⟩) | ((with_reducible refine gate_callee (f := 14) rfl ?_); refine goesL_ (some 20) rfl rfl Try.func14 (by kernel_rfl) rfl #[.int .i64 (-7)] rfl (by (try simp only [List.map_toArray, List.map_cons, List.map_nil]); first | done | rfl | (simp only [List.length_drop, List.length_take]; rfl)) ?_; (with_reducible refine (word_Int.calls (-7) t125 t126 _ A2.out).mono ?_); rintro e w' ⟨rfl, ⟨nd, rfl⟩⟩; refine ⟨_, rfl, ?_⟩) | ((with_reducible refine gate_callee (f := 14) rfl ?_); refine goesL_ (some 24) rfl rfl Try.func14 (by kernel_rfl) rfl #[.int .i64 2] rfl (by (try simp only [List.map_toArray, List.map_cons, List.map_nil]); first | done | rfl | (simp only [List.length_drop, List.length_take]; rfl)) ?_; (with_reducible refine (word_Int.calls 2 t127 t128 _ A3.out).mono ?_); rintro e w' ⟨rfl, ⟨nd, rfl⟩⟩; refine ⟨_, rfl, ?_⟩) | ((with_reducible refine gate_callee (f := 11) rfl ?_); refine goesL_ (some 30) rfl rfl Try.func11 (by kernel_rfl) rfl #[.int .u8 47, .int .u64 t125, .int .u64 t127] rfl (by (try simp only [List.map_toArray, List.map_cons, List.map_nil]); first | done | rfl | (simp only [List.length_drop, List.length_take]; rfl)) ?_; (with_reducible refine (word_Do.calls k 47 t125 t127 t129 t130 _ A4.out).mono ?_); rintro e w29 ⟨rfl, hb⟩; refine ⟨_, rfl, ?_⟩; have n0_ := Aside0.mk (below_step (by repeat (first | (with_reducible first | exact HB.out | apply below_alloc | apply pw_below_drewN | apply below_drew1) | exact HB.out)) hb); clear HB; have HB := n0_; clear n0_; (try clear hb); (try clear hb2); (try clear hk); (try clear hi)) | ((with_reducible refine gate_callee (f := 11) rfl ?_); refine goesL_ (some 36) rfl rfl Try.func11 (by kernel_rfl) rfl #[.int .u8 37, .int .u64 t125, .int .u64 t127] rfl (by (try simp only [List.map_toArray, List.map_cons, List.map_nil]); first | done | rfl | (simp only [List.length_drop, List.length_take]; rfl)) ?_; (with_reducible refine (word_Do.calls k 37 t125 t127 t131 t132 _ A5.out).mono ?_); rintro e w30 ⟨rfl, hb⟩; refine ⟨_, rfl, ?_⟩; have n0_ := Aside0.mk (below_step (by repeat (first | (with_reducible first | exact HB.out | apply below_alloc | apply pw_below_drewN | apply below_drew1) | exact HB.out)) hb); clear HB; have HB := n0_; clear n0_; (try clear hb); (try clear hb2); (try clear hk); (try clear hi)) | ((with_reducible refine gate_callee (f := 15) rfl ?_); refine goesL_ (some 41) rfl rfl Try.func15 (by kernel_rfl) rfl #[.int .u64 t129] rfl (by (try simp only [List.map_toArray, List.map_cons, List.map_nil]); first | done | rfl | (simp only [List.length_drop, List.length_take]; rfl)) ?_; (with_reducible refine (word_ToInt.calls t129 t133 t134 _ A6.out).mono ?_); rintro e w' ⟨rfl, ⟨nd, rfl⟩⟩; refine ⟨_, rfl, ?_⟩) | ((with_reducible refine gate_callee (f := 15) rfl ?_); refine goesL_ (some 46) rfl rfl Try.func15 (by kernel_rfl) rfl #[.int .u64 t131] rfl (by (try simp only [List.map_toArray, List.map_cons, List.map_nil]); first | done | rfl | (simp only [List.length_drop, List.length_take]; rfl)) ?_; (with_reducible refine (word_ToInt.calls t131 t135 t136 _ A7.out).mono ?_); rintro e w' ⟨rfl, ⟨nd, rfl⟩⟩; refine ⟨_, rfl, ?_⟩))
          go_ret
          exact ⟨by first | rfl | (simp [errW_none, errW_some] <;> rfl) | (simp [*, errW_none, errW_some] <;> rfl), by repeat (first | (with_reducible first | exact HB.out | apply below_alloc | apply pw_below_drewN | apply below_drew1) | exact HB.out)⟩
      · rw [if_neg c10] at H
        have c10b0 : (t126 == 0) = false := beq_eq_false_iff_ne.mpr c10
        have c10b1 : (t126 != 0) = true := bne_iff_ne.mpr c10
        obtain rfl := Option.some.inj H
        go_enter Try.func13, Try.ntmps13
        go_wp2_with (first | ((with_reducible refine gate_callee (f := 14) rfl ?_); refine goesL_ (some 16) rfl rfl Try.func14 (by kernel_rfl) rfl #[.int .i64 (-1)] rfl (by (try simp only [List.map_toArray, List.map_cons, List.map_nil]); first | done | rfl | (simp only [List.length_drop, List.length_take]; rfl)) ?_; (with_reducible refine (word_Int.calls (-1) t123 t124 _ A1.out).mono ?_); rintro e w' ⟨rfl, ⟨nd, rfl⟩⟩; refine ⟨_, rfl, ?_⟩) | ((with_reducible refine gate_callee (f := 14) rfl ?_); refine goesL_ (some 20) rfl rfl Try.func14 (by kernel_rfl) rfl #[.int .i64 (-7)] rfl (by (try simp only [List.map_toArray, List.map_cons, List.map_nil]); first | done | rfl | (simp only [List.length_drop, List.length_take]; rfl)) ?_; (with_reducible refine (word_Int.calls (-7) t125 t126 _ A2.out).mono ?_); rintro e w' ⟨rfl, ⟨nd, rfl⟩⟩; refine ⟨_, rfl, ?_⟩) | ((with_reducible refine gate_callee (f := 14) rfl ?_); refine goesL_ (some 24) rfl rfl Try.func14 (by kernel_rfl) rfl #[.int .i64 2] rfl (by (try simp only [List.map_toArray, List.map_cons, List.map_nil]); first | done | rfl | (simp only [List.length_drop, List.length_take]; rfl)) ?_; (with_reducible refine (word_Int.calls 2 t127 t128 _ A3.out).mono ?_); rintro e w' ⟨rfl, ⟨nd, rfl⟩⟩; refine ⟨_, rfl, ?_⟩) | ((with_reducible refine gate_callee (f := 11) rfl ?_); refine goesL_ (some 30) rfl rfl Try.func11 (by kernel_rfl) rfl #[.int .u8 47, .int .u64 t125, .int .u64 t127] rfl (by (try simp only [List.map_toArray, List.map_cons, List.map_nil]); first | done | rfl | (simp only [List.length_drop, List.length_take]; rfl)) ?_; (with_reducible refine (word_Do.calls k 47 t125 t127 t129 t130 _ A4.out).mono ?_); rintro e w31 ⟨rfl, hb⟩; refine ⟨_, rfl, ?_⟩; have n0_ := Aside0.mk (below_step (by repeat (first | (with_reducible first | exact HB.out | apply below_alloc | apply pw_below_drewN | apply below_drew1) | exact HB.out)) hb); clear HB; have HB := n0_; clear n0_; (try clear hb); (try clear hb2); (try clear hk); (try clear hi)) | ((with_reducible refine gate_callee (f := 11) rfl ?_); refine goesL_ (some 36) rfl rfl Try.func11 (by kernel_rfl) rfl #[.int .u8 37, .int .u64 t125, .int .u64 t127] rfl (by (try simp only [List.map_toArray, List.map_cons, List.map_nil]); first | done | rfl | (simp only [List.length_drop, List.length_take]; rfl)) ?_; (with_reducible refine (word_Do.calls k 37 t125 t127 t131 t132 _ A5.out).mono ?_); rintro e w32 ⟨rfl, hb⟩; refine ⟨_, rfl, ?_⟩; have n0_ := Aside0.mk (below_step (by repeat (first | (with_reducible first | exact HB.out | apply below_alloc | apply pw_below_drewN | apply below_drew1) | exact HB.out)) hb); clear HB; have HB := n0_; clear n0_; (try clear hb); (try clear hb2); (try clear hk); (try clear hi)) | ((with_reducible refine gate_callee (f := 15) rfl ?_); refine goesL_ (some 41) rfl rfl Try.func15 (by kernel_rfl) rfl #[.int .u64 t129] rfl (by (try simp only [List.map_toArray, List.map_cons, List.map_nil]); first | done | rfl | (simp only [List.length_drop, List.length_take]; rfl)) ?_; (with_reducible refine (word_ToInt.calls t129 t133 t134 _ A6.out).mono ?_); rintro e w' ⟨rfl, ⟨nd, rfl⟩⟩; refine ⟨_, rfl, ?_⟩) | ((with_reducible refine gate_callee (f := 15) rfl ?_); refine goesL_ (some 46) rfl rfl Try.func15 (by kernel_rfl) rfl #[.int .u64 t131] rfl (by (try simp only [List.map_toArray, List.map_cons, List.map_nil]); first | done | rfl | (simp only [List.length_drop, List.length_take]; rfl)) ?_; (with_reducible refine (word_ToInt.calls t131 t135 t136 _ A7.out).mono ?_); rintro e w' ⟨rfl, ⟨nd, rfl⟩⟩; refine ⟨_, rfl, ?_⟩))
        go_ret
        exact ⟨by first | rfl | (simp [errW_none, errW_some] <;> rfl) | (simp [*, errW_none, errW_some] <;> rfl), by repeat (first | (with_reducible first | exact HB.out | apply below_alloc | apply pw_below_drewN | apply below_drew1) | exact HB.out)⟩
    · rw [if_neg c9] at H
      have c9b0 : (t124 == 0) = false := beq_eq_false_iff_ne.mpr c9
      have c9b1 : (t124 != 0) = true := bne_iff_ne.mpr c9
      obtain rfl := Option.some.inj H
      go_enter Try.func13, Try.ntmps13
      go_wp2_with (first | ((with_reducible refine gate_callee (f := 14) rfl ?_); refine goesL_ (some 16) rfl rfl Try.func14 (by kernel_rfl) rfl #[.int .i64 (-1)] rfl (by (try simp only [List.map_toArray, List.map_cons, List.map_nil]); first | done | rfl | (simp only [List.length_drop, List.length_take]; rfl)) ?_; (with_reducible refine (word_Int.calls (-1) t123 t124 _ A1.out).mono ?_); rintro e w' ⟨rfl, ⟨nd, rfl⟩⟩; refine ⟨_, rfl, ?_⟩) | ((with_reducible refine gate_callee (f := 14) rfl ?_); refine goesL_ (some 20) rfl rfl Try.func14 (by kernel_rfl) rfl #[.int .i64 (-7)] rfl (by (try simp only [List.map_toArray, List.map_cons, List.map_nil]); first | done | rfl | (simp only [List.length_drop, List.length_take]; rfl)) ?_; (with_reducible refine (word_Int.calls (-7) t125 t126 _ A2.out).mono ?_); rintro e w' ⟨rfl, ⟨nd, rfl⟩⟩; refine ⟨_, rfl, ?_⟩) | ((with_reducible refine gate_callee (f := 14) rfl ?_); refine goesL_ (some 24) rfl rfl Try.func14 (by kernel_rfl) rfl #[.int .i64 2] rfl (by (try simp only [List.map_toArray, List.map_cons, List.map_nil]); first | done | rfl | (simp only [List.length_drop, List.length_take]; rfl)) ?_; (with_reducible refine (word_Int.calls 2 t127 t128 _ A3.out).mono ?_); rintro e w' ⟨rfl, ⟨nd, rfl⟩⟩; refine ⟨_, rfl, ?_⟩) | ((with_reducible refine gate_callee (f := 11) rfl ?_); refine goesL_ (some 30) rfl rfl Try.func11 (by kernel_rfl) rfl #[.int .u8 47, .int .u64 t125, .int .u64 t127] rfl (by (try simp only [List.map_toArray, List.map_cons, List.map_nil]); first | done | rfl | (simp only [List.length_drop, List.length_take]; rfl)) ?_; (with_reducible refine (word_Do.calls k 47 t125 t127 t129 t130 _ A4.out).mono ?_); rintro e w33 ⟨rfl, hb⟩; refine ⟨_, rfl, ?_⟩; have n0_ := Aside0.mk (below_step (by repeat (first | (with_reducible first | exact HB.out | apply below_alloc | apply pw_below_drewN | apply below_drew1) | exact HB.out)) hb); clear HB; have HB := n0_; clear n0_; (try clear hb); (try clear hb2); (try clear hk); (try clear hi)) | ((with_reducible refine gate_callee (f := 11) rfl ?_); refine goesL_ (some 36) rfl rfl Try.func11 (by kernel_rfl) rfl #[.int .u8 37, .int .u64 t125, .int .u64 t127] rfl (by (try simp only [List.map_toArray, List.map_cons, List.map_nil]); first | done | rfl | (simp only [List.length_drop, List.length_take]; rfl)) ?_; (with_reducible refine (word_Do.calls k 37 t125 t127 t131 t132 _ A5.out).mono ?_); rintro e w34 ⟨rfl, hb⟩; refine ⟨_, rfl, ?_⟩; have n0_ := Aside0.mk (below_step (by repeat (first | (with_reducible first | exact HB.out | apply below_alloc | apply pw_below_drewN | apply below_drew1) | exact HB.out)) hb); clear HB; have HB := n0_; clear n0_; (try clear hb); (try clear hb2); (try clear hk); (try clear hi)) | ((with_reducible refine gate_callee (f := 15) rfl ?_); refine goesL_ (some 41) rfl rfl Try.func15 (by kernel_rfl) rfl #[.int .u64 t129] rfl (by (try simp only [List.map_toArray, List.map_cons, List.map_nil]); first | done | rfl | (simp only [List.length_drop, List.length_take]; rfl)) ?_; (with_reducible refine (word_ToInt.calls t129 t133 t134 _ A6.out).mono ?_); rintro e w' ⟨rfl, ⟨nd, rfl⟩⟩; refine ⟨_, rfl, ?_⟩) | ((with_reducible refine gate_callee (f := 15) rfl ?_); refine goesL_ (some 46) rfl rfl Try.func15 (by kernel_rfl) rfl #[.int .u64 t131] rfl (by (try simp only [List.map_toArray, List.map_cons, List.map_nil]); first | done | rfl | (simp only [List.length_drop, List.length_take]; rfl)) ?_; (with_reducible refine (word_ToInt.calls t131 t135 t136 _ A7.out).mono ?_); rintro e w' ⟨rfl, ⟨nd, rfl⟩⟩; refine ⟨_, rfl, ?_⟩))
      go_ret
      exact ⟨by first | rfl | (simp [errW_none, errW_some] <;> rfl) | (simp [*, errW_none, errW_some] <;> rfl), by repeat (first | (with_reducible first | exact HB.out | apply below_alloc | apply pw_below_drewN | apply below_drew1) | exact HB.out)⟩
  · rw [if_neg c8] at H
    have c8b0 : (t123 == 18446744073709551608) = false := beq_eq_false_iff_ne.mpr c8
    have c8b1 : (t123 != 18446744073709551608) = true := bne_iff_ne.mpr c8
    obtain rfl := Option.some.inj H
    go_enter Try.func13, Try.ntmps13
    go_wp2_with (first | ((with_reducible refine gate_callee (f := 14) rfl ?_); refine goesL_ (some 16) rfl rfl Try.func14 (by kernel_rfl) rfl #[.int .i64 (-1)] rfl (by (try simp only [List.map_toArray, List.map_cons, List.map_nil]); first | done | rfl | (simp only [List.length_drop, List.length_take]; rfl)) ?_; (with_reducible refine (word_Int.calls (-1) t123 t124 _ A1.out).mono ?_); rintro e w' ⟨rfl, ⟨nd, rfl⟩⟩; refine ⟨_, rfl, ?_⟩) | ((with_reducible refine gate_callee (f := 14) rfl ?_); refine goesL_ (some 20) rfl rfl Try.func14 (by kernel_rfl) rfl #[.int .i64 (-7)] rfl (by (try simp only [List.map_toArray, List.map_cons, List.map_nil]); first | done | rfl | (simp only [List.length_drop, List.length_take]; rfl)) ?_; (with_reducible refine (word_Int.calls (-7) t125 t126 _ A2.out).mono ?_); rintro e w' ⟨rfl, ⟨nd, rfl⟩⟩; refine ⟨_, rfl, ?_⟩) | ((with_reducible refine gate_callee (f := 14) rfl ?_); refine goesL_ (some 24) rfl rfl Try.func14 (by kernel_rfl) rfl #[.int .i64 2] rfl (by (try simp only [List.map_toArray, List.map_cons, List.map_nil]); first | done | rfl | (simp only [List.length_drop, List.length_take]; rfl)) ?_; (with_reducible refine (word_Int.calls 2 t127 t128 _ A3.out).mono ?_); rintro e w' ⟨rfl, ⟨nd, rfl⟩⟩; refine ⟨_, rfl, ?_⟩) | ((with_reducible refine gate_callee (f := 11) rfl ?_); refine goesL_ (some 30) rfl rfl Try.func11 (by kernel_rfl) rfl #[.int .u8 47, .int .u64 t125, .int .u64 t127] rfl (by (try simp only [List.map_toArray, List.map_cons, List.map_nil]); first | done | rfl | (simp only [List.length_drop, List.length_take]; rfl)) ?_; (with_reducible refine (word_Do.calls k 47 t125 t127 t129 t130 _ A4.out).mono ?_); rintro e w35 ⟨rfl, hb⟩; refine ⟨_, rfl, ?_⟩; have n0_ := Aside0.mk (below_step (by repeat (first | (with_reducible first | exact HB.out | apply below_alloc | apply pw_below_drewN | apply below_drew1) | exact HB.out)) hb); clear HB; have HB := n0_; clear n0_; (try clear hb); (try clear hb2); (try clear hk); (try clear hi)) | ((with_reducible refine gate_callee (f := 11) rfl ?_); refine goesL_ (some 36) rfl rfl Try.func11 (by kernel_rfl) rfl #[.int .u8 37, .int .u64 t125, .int .u64 t127] rfl (by (try simp only [List.map_toArray, List.map_cons, List.map_nil]); first | done | rfl | (simp only [List.length_drop, List.length_take]; rfl)) ?_; (with_reducible refine (word_Do.calls k 37 t125 t127 t131 t132 _ A5.out).mono ?_); rintro e w36 ⟨rfl, hb⟩; refine ⟨_, rfl, ?_⟩; have n0_ := Aside0.mk (below_step (by repeat (first | (with_reducible first | exact HB.out | apply below_alloc | apply pw_below_drewN | apply below_drew1) | exact HB.out)) hb); clear HB; have HB := n0_; clear n0_; (try clear hb); (try clear hb2); (try clear hk); (try clear hi)) | ((with_reducible refine gate_callee (f := 15) rfl ?_); refine goesL_ (some 41) rfl rfl Try.func15 (by kernel_rfl) rfl #[.int .u64 t129] rfl (by (try simp only [List.map_toArray, List.map_cons, List.map_nil]); first | done | rfl | (simp only [List.length_drop, List.length_take]; rfl)) ?_; (with_reducible refine (word_ToInt.calls t129 t133 t134 _ A6.out).mono ?_); rintro e w' ⟨rfl, ⟨nd, rfl⟩⟩; refine ⟨_, rfl, ?_⟩) | ((with_reducible refine gate_callee (f := 15) rfl ?_); refine goesL_ (some 46) rfl rfl Try.func15 (by kernel_rfl) rfl #[.int .u64 t131] rfl (by (try simp only [List.map_toArray, List.map_cons, List.map_nil]); first | done | rfl | (simp only [List.length_drop, List.length_take]; rfl)) ?_; (with_reducible refine (word_ToInt.calls t131 t135 t136 _ A7.out).mono ?_); rintro e w' ⟨rfl, ⟨nd, rfl⟩⟩; refine ⟨_, rfl, ?_⟩))
    go_ret
    exact ⟨by first | rfl | (simp [errW_none, errW_some] <;> rfl) | (simp [*, errW_none, errW_some] <;> rfl), by repeat (first | (with_reducible first | exact HB.out | apply below_alloc | apply pw_below_drewN | apply below_drew1) | exact HB.out)⟩

/-! ### eddywheellaw01_WordOrders: function 5 -/
mutual
def eddywheellaw01_WordOrders.j0 : Nat → Int → Int → Bool → Int → Int → Int → Int → Bool → Option (Bool)
  | 0, _, _, _, _, _, _, _, _ => none
  | k + 1, x0, x1, x7, x14, x16, x18, x24, x117 => if x117 = true then (some false) else ((some (([x14, x16, x18] : List Int) : List Int)).bind fun y156 => (eddywheellaw01_WordOrders.l0 k x0 x1 x7 x14 x24 0 y156 (y156.length : Int) 0))
def eddywheellaw01_WordOrders.l0 : Nat → Int → Int → Bool → Int → Int → Int → List Int → Int → Int → Option (Bool)
  | 0, _, _, _, _, _, _, _, _, _ => none
  | k + 1, x0, x1, x7, x14, x24, x26, x121, x122, x123 => if x123 < x122 then (if 0 ≤ x123 then (if x123 < (x121.length : Int) then (if (rd x121 x123) = 18 then (eddywheellaw01_WordOrders.l0 k x0 x1 x7 x14 x24 (wrap64 (x26 + 1)) x121 x122 (wrap64 (x123 + 1))) else (if (rd x121 x123) = 10 then (eddywheellaw01_WordOrders.l0 k x0 x1 x7 x14 x24 x26 x121 x122 (wrap64 (x123 + 1))) else (some false))) else (none)) else (none)) else (if x7 = true then (if x26 = 1 then (if x24 = x14 then (some ((x14 == 18) == (decide ((Int.tmod x0 274877906944) < (Int.tmod x1 274877906944))))) else (some false)) else (some false)) else (some false))
end
def eddywheellaw01_WordOrders.f (k : Nat) (a0 : Int) (a1 : Int) (a2 : Int) : Option (Bool) := (eddywheellaw01_shown.f k).bind fun t137 => ((word_Int.f (Int.tmod a0 274877906944)).bind fun bt138 => ((word_Int.f (Int.tmod a1 274877906944)).bind fun bt140 => ((word_Int.f (Int.tmod a2 274877906944)).bind fun bt142 => ((word_Do.f k 60 bt138.1 bt140.1).bind fun bt144 => ((word_Do.f k 60 bt140.1 bt138.1).bind fun bt146 => ((word_Do.f k 61 bt138.1 bt140.1).bind fun bt148 => ((word_Do.f k 43 bt138.1 bt142.1).bind fun bt150 => ((word_Do.f k 43 bt140.1 bt142.1).bind fun bt152 => ((word_Do.f k 60 bt150.1 bt152.1).bind fun bt154 => (if bt138.2 = 0 then (if bt140.2 = 0 then (if bt142.2 = 0 then (if bt144.2 = 0 then (if bt146.2 = 0 then (if bt148.2 = 0 then (if bt150.2 = 0 then (if bt152.2 = 0 then (eddywheellaw01_WordOrders.j0 k a0 a1 t137 bt144.1 bt146.1 bt148.1 bt154.1 (bt154.2 != 0)) else (eddywheellaw01_WordOrders.j0 k a0 a1 t137 bt144.1 bt146.1 bt148.1 bt154.1 true)) else (eddywheellaw01_WordOrders.j0 k a0 a1 t137 bt144.1 bt146.1 bt148.1 bt154.1 true)) else (eddywheellaw01_WordOrders.j0 k a0 a1 t137 bt144.1 bt146.1 bt148.1 bt154.1 true)) else (eddywheellaw01_WordOrders.j0 k a0 a1 t137 bt144.1 bt146.1 bt148.1 bt154.1 true)) else (eddywheellaw01_WordOrders.j0 k a0 a1 t137 bt144.1 bt146.1 bt148.1 bt154.1 true)) else (eddywheellaw01_WordOrders.j0 k a0 a1 t137 bt144.1 bt146.1 bt148.1 bt154.1 true)) else (eddywheellaw01_WordOrders.j0 k a0 a1 t137 bt144.1 bt146.1 bt148.1 bt154.1 true)) else (eddywheellaw01_WordOrders.j0 k a0 a1 t137 bt144.1 bt146.1 bt148.1 bt154.1 true)))))))))))
theorem eddywheellaw01_WordOrders.mono_l : ∀ k, (∀ y0 y1 y2 y3 y4 y5 y6 y7, LeO (eddywheellaw01_WordOrders.j0 k y0 y1 y2 y3 y4 y5 y6 y7) (eddywheellaw01_WordOrders.j0 (k + 1) y0 y1 y2 y3 y4 y5 y6 y7)) ∧ (∀ y0 y1 y2 y3 y4 y5 y6 y7 y8, LeO (eddywheellaw01_WordOrders.l0 k y0 y1 y2 y3 y4 y5 y6 y7 y8) (eddywheellaw01_WordOrders.l0 (k + 1) y0 y1 y2 y3 y4 y5 y6 y7 y8))
  | 0 => ⟨fun _ _ _ _ _ _ _ _ r h => by simp [eddywheellaw01_WordOrders.j0] at h, fun _ _ _ _ _ _ _ _ _ r h => by simp [eddywheellaw01_WordOrders.l0] at h⟩
  | k + 1 => by
    obtain ⟨ih0, ih1⟩ := eddywheellaw01_WordOrders.mono_l k
    refine ⟨?_, ?_⟩
    · intro y0 y1 y2 y3 y4 y5 y6 y7
      unfold eddywheellaw01_WordOrders.j0
      repeat' first
      | (with_reducible exact ih0 _ _ _ _ _ _ _ _)
      | (with_reducible exact ih1 _ _ _ _ _ _ _ _ _)
      | (with_reducible exact eddywheellaw01_shown.mono _)
      | (with_reducible exact word_Do.mono _ _ _ _)
      | (with_reducible exact LeO.refl _)
      | (with_reducible exact LeO.none _)
      | (with_reducible refine LeO.ite ?_ ?_)
      | (with_reducible refine LeO.bind ?_ (fun _ => ?_))
      | exact ih0 _ _ _ _ _ _ _ _
      | exact ih1 _ _ _ _ _ _ _ _ _
      | exact eddywheellaw01_shown.mono _
      | exact word_Do.mono _ _ _ _
      | exact LeO.none _
      | refine LeO.ite ?_ ?_
      | refine LeO.bind ?_ (fun _ => ?_)
    · intro y0 y1 y2 y3 y4 y5 y6 y7 y8
      unfold eddywheellaw01_WordOrders.l0
      repeat' first
      | (with_reducible exact ih0 _ _ _ _ _ _ _ _)
      | (with_reducible exact ih1 _ _ _ _ _ _ _ _ _)
      | (with_reducible exact eddywheellaw01_shown.mono _)
      | (with_reducible exact word_Do.mono _ _ _ _)
      | (with_reducible exact LeO.refl _)
      | (with_reducible exact LeO.none _)
      | (with_reducible refine LeO.ite ?_ ?_)
      | (with_reducible refine LeO.bind ?_ (fun _ => ?_))
      | exact ih0 _ _ _ _ _ _ _ _
      | exact ih1 _ _ _ _ _ _ _ _ _
      | exact eddywheellaw01_shown.mono _
      | exact word_Do.mono _ _ _ _
      | exact LeO.none _
      | refine LeO.ite ?_ ?_
      | refine LeO.bind ?_ (fun _ => ?_)
theorem eddywheellaw01_WordOrders.mono : ∀ a0 a1 a2 k, LeO (eddywheellaw01_WordOrders.f k a0 a1 a2) (eddywheellaw01_WordOrders.f (k + 1) a0 a1 a2) := by
  intro a0 a1 a2 k
  obtain ⟨ih0, ih1⟩ := eddywheellaw01_WordOrders.mono_l k
  unfold eddywheellaw01_WordOrders.f
  repeat' first
      | (with_reducible exact ih0 _ _ _ _ _ _ _ _)
      | (with_reducible exact ih1 _ _ _ _ _ _ _ _ _)
      | (with_reducible exact eddywheellaw01_shown.mono _)
      | (with_reducible exact word_Do.mono _ _ _ _)
      | (with_reducible exact LeO.refl _)
      | (with_reducible exact LeO.none _)
      | (with_reducible refine LeO.ite ?_ ?_)
      | (with_reducible refine LeO.bind ?_ (fun _ => ?_))
      | exact ih0 _ _ _ _ _ _ _ _
      | exact ih1 _ _ _ _ _ _ _ _ _
      | exact eddywheellaw01_shown.mono _
      | exact word_Do.mono _ _ _ _
      | exact LeO.none _
      | refine LeO.ite ?_ ?_
      | refine LeO.bind ?_ (fun _ => ?_)
set_option maxHeartbeats 8000000 in
set_option maxRecDepth 100000 in
theorem eddywheellaw01_WordOrders.calls (k : Nat) (a0 : Int) (a1 : Int) (a2 : Int) (r : Bool) (w : World) (h : eddywheellaw01_WordOrders.f k a0 a1 a2 = some r) :
    Calls Try.prog 5 #[.int .i64 a0, .int .i64 a1, .int .i64 a2] w fun e w' => e = .returned (.bool r) ∧ Below w.heap.size w w' := by
  have HB := Aside0.mk (Below.refl w.heap.size w)
  have H : ((eddywheellaw01_shown.f k).bind fun t137 => ((word_Int.f (Int.tmod a0 274877906944)).bind fun bt138 => ((word_Int.f (Int.tmod a1 274877906944)).bind fun bt140 => ((word_Int.f (Int.tmod a2 274877906944)).bind fun bt142 => ((word_Do.f k 60 bt138.1 bt140.1).bind fun bt144 => ((word_Do.f k 60 bt140.1 bt138.1).bind fun bt146 => ((word_Do.f k 61 bt138.1 bt140.1).bind fun bt148 => ((word_Do.f k 43 bt138.1 bt142.1).bind fun bt150 => ((word_Do.f k 43 bt140.1 bt142.1).bind fun bt152 => ((word_Do.f k 60 bt150.1 bt152.1).bind fun bt154 => (if bt138.2 = 0 then (if bt140.2 = 0 then (if bt142.2 = 0 then (if bt144.2 = 0 then (if bt146.2 = 0 then (if bt148.2 = 0 then (if bt150.2 = 0 then (if bt152.2 = 0 then (eddywheellaw01_WordOrders.j0 k a0 a1 t137 bt144.1 bt146.1 bt148.1 bt154.1 (bt154.2 != 0)) else (eddywheellaw01_WordOrders.j0 k a0 a1 t137 bt144.1 bt146.1 bt148.1 bt154.1 true)) else (eddywheellaw01_WordOrders.j0 k a0 a1 t137 bt144.1 bt146.1 bt148.1 bt154.1 true)) else (eddywheellaw01_WordOrders.j0 k a0 a1 t137 bt144.1 bt146.1 bt148.1 bt154.1 true)) else (eddywheellaw01_WordOrders.j0 k a0 a1 t137 bt144.1 bt146.1 bt148.1 bt154.1 true)) else (eddywheellaw01_WordOrders.j0 k a0 a1 t137 bt144.1 bt146.1 bt148.1 bt154.1 true)) else (eddywheellaw01_WordOrders.j0 k a0 a1 t137 bt144.1 bt146.1 bt148.1 bt154.1 true)) else (eddywheellaw01_WordOrders.j0 k a0 a1 t137 bt144.1 bt146.1 bt148.1 bt154.1 true)) else (eddywheellaw01_WordOrders.j0 k a0 a1 t137 bt144.1 bt146.1 bt148.1 bt154.1 true)))))))))))) = some r := h
  clear h
  replace H := Option.bind_eq_some_iff.mp H
  obtain ⟨t137, A40, H⟩ := H
  replace H : ((word_Int.f (Int.tmod a0 274877906944)).bind fun bt138 => ((word_Int.f (Int.tmod a1 274877906944)).bind fun bt140 => ((word_Int.f (Int.tmod a2 274877906944)).bind fun bt142 => ((word_Do.f k 60 bt138.1 bt140.1).bind fun bt144 => ((word_Do.f k 60 bt140.1 bt138.1).bind fun bt146 => ((word_Do.f k 61 bt138.1 bt140.1).bind fun bt148 => ((word_Do.f k 43 bt138.1 bt142.1).bind fun bt150 => ((word_Do.f k 43 bt140.1 bt142.1).bind fun bt152 => ((word_Do.f k 60 bt150.1 bt152.1).bind fun bt154 => (if bt138.2 = 0 then (if bt140.2 = 0 then (if bt142.2 = 0 then (if bt144.2 = 0 then (if bt146.2 = 0 then (if bt148.2 = 0 then (if bt150.2 = 0 then (if bt152.2 = 0 then (eddywheellaw01_WordOrders.j0 k a0 a1 t137 bt144.1 bt146.1 bt148.1 bt154.1 (bt154.2 != 0)) else (eddywheellaw01_WordOrders.j0 k a0 a1 t137 bt144.1 bt146.1 bt148.1 bt154.1 true)) else (eddywheellaw01_WordOrders.j0 k a0 a1 t137 bt144.1 bt146.1 bt148.1 bt154.1 true)) else (eddywheellaw01_WordOrders.j0 k a0 a1 t137 bt144.1 bt146.1 bt148.1 bt154.1 true)) else (eddywheellaw01_WordOrders.j0 k a0 a1 t137 bt144.1 bt146.1 bt148.1 bt154.1 true)) else (eddywheellaw01_WordOrders.j0 k a0 a1 t137 bt144.1 bt146.1 bt148.1 bt154.1 true)) else (eddywheellaw01_WordOrders.j0 k a0 a1 t137 bt144.1 bt146.1 bt148.1 bt154.1 true)) else (eddywheellaw01_WordOrders.j0 k a0 a1 t137 bt144.1 bt146.1 bt148.1 bt154.1 true)) else (eddywheellaw01_WordOrders.j0 k a0 a1 t137 bt144.1 bt146.1 bt148.1 bt154.1 true))))))))))) = some r := H
  have A4 := Aside0.mk A40
  clear A40
  replace H := Option.bind_eq_some_iff.mp H
  obtain ⟨⟨t138, t139⟩, A50, H⟩ := H
  replace H : ((word_Int.f (Int.tmod a1 274877906944)).bind fun bt140 => ((word_Int.f (Int.tmod a2 274877906944)).bind fun bt142 => ((word_Do.f k 60 t138 bt140.1).bind fun bt144 => ((word_Do.f k 60 bt140.1 t138).bind fun bt146 => ((word_Do.f k 61 t138 bt140.1).bind fun bt148 => ((word_Do.f k 43 t138 bt142.1).bind fun bt150 => ((word_Do.f k 43 bt140.1 bt142.1).bind fun bt152 => ((word_Do.f k 60 bt150.1 bt152.1).bind fun bt154 => (if t139 = 0 then (if bt140.2 = 0 then (if bt142.2 = 0 then (if bt144.2 = 0 then (if bt146.2 = 0 then (if bt148.2 = 0 then (if bt150.2 = 0 then (if bt152.2 = 0 then (eddywheellaw01_WordOrders.j0 k a0 a1 t137 bt144.1 bt146.1 bt148.1 bt154.1 (bt154.2 != 0)) else (eddywheellaw01_WordOrders.j0 k a0 a1 t137 bt144.1 bt146.1 bt148.1 bt154.1 true)) else (eddywheellaw01_WordOrders.j0 k a0 a1 t137 bt144.1 bt146.1 bt148.1 bt154.1 true)) else (eddywheellaw01_WordOrders.j0 k a0 a1 t137 bt144.1 bt146.1 bt148.1 bt154.1 true)) else (eddywheellaw01_WordOrders.j0 k a0 a1 t137 bt144.1 bt146.1 bt148.1 bt154.1 true)) else (eddywheellaw01_WordOrders.j0 k a0 a1 t137 bt144.1 bt146.1 bt148.1 bt154.1 true)) else (eddywheellaw01_WordOrders.j0 k a0 a1 t137 bt144.1 bt146.1 bt148.1 bt154.1 true)) else (eddywheellaw01_WordOrders.j0 k a0 a1 t137 bt144.1 bt146.1 bt148.1 bt154.1 true)) else (eddywheellaw01_WordOrders.j0 k a0 a1 t137 bt144.1 bt146.1 bt148.1 bt154.1 true)))))))))) = some r := H
  have A5 := Aside0.mk A50
  clear A50
  replace H := Option.bind_eq_some_iff.mp H
  obtain ⟨⟨t140, t141⟩, A60, H⟩ := H
  replace H : ((word_Int.f (Int.tmod a2 274877906944)).bind fun bt142 => ((word_Do.f k 60 t138 t140).bind fun bt144 => ((word_Do.f k 60 t140 t138).bind fun bt146 => ((word_Do.f k 61 t138 t140).bind fun bt148 => ((word_Do.f k 43 t138 bt142.1).bind fun bt150 => ((word_Do.f k 43 t140 bt142.1).bind fun bt152 => ((word_Do.f k 60 bt150.1 bt152.1).bind fun bt154 => (if t139 = 0 then (if t141 = 0 then (if bt142.2 = 0 then (if bt144.2 = 0 then (if bt146.2 = 0 then (if bt148.2 = 0 then (if bt150.2 = 0 then (if bt152.2 = 0 then (eddywheellaw01_WordOrders.j0 k a0 a1 t137 bt144.1 bt146.1 bt148.1 bt154.1 (bt154.2 != 0)) else (eddywheellaw01_WordOrders.j0 k a0 a1 t137 bt144.1 bt146.1 bt148.1 bt154.1 true)) else (eddywheellaw01_WordOrders.j0 k a0 a1 t137 bt144.1 bt146.1 bt148.1 bt154.1 true)) else (eddywheellaw01_WordOrders.j0 k a0 a1 t137 bt144.1 bt146.1 bt148.1 bt154.1 true)) else (eddywheellaw01_WordOrders.j0 k a0 a1 t137 bt144.1 bt146.1 bt148.1 bt154.1 true)) else (eddywheellaw01_WordOrders.j0 k a0 a1 t137 bt144.1 bt146.1 bt148.1 bt154.1 true)) else (eddywheellaw01_WordOrders.j0 k a0 a1 t137 bt144.1 bt146.1 bt148.1 bt154.1 true)) else (eddywheellaw01_WordOrders.j0 k a0 a1 t137 bt144.1 bt146.1 bt148.1 bt154.1 true)) else (eddywheellaw01_WordOrders.j0 k a0 a1 t137 bt144.1 bt146.1 bt148.1 bt154.1 true))))))))) = some r := H
  have A6 := Aside0.mk A60
  clear A60
  replace H := Option.bind_eq_some_iff.mp H
  obtain ⟨⟨t142, t143⟩, A70, H⟩ := H
  replace H : ((word_Do.f k 60 t138 t140).bind fun bt144 => ((word_Do.f k 60 t140 t138).bind fun bt146 => ((word_Do.f k 61 t138 t140).bind fun bt148 => ((word_Do.f k 43 t138 t142).bind fun bt150 => ((word_Do.f k 43 t140 t142).bind fun bt152 => ((word_Do.f k 60 bt150.1 bt152.1).bind fun bt154 => (if t139 = 0 then (if t141 = 0 then (if t143 = 0 then (if bt144.2 = 0 then (if bt146.2 = 0 then (if bt148.2 = 0 then (if bt150.2 = 0 then (if bt152.2 = 0 then (eddywheellaw01_WordOrders.j0 k a0 a1 t137 bt144.1 bt146.1 bt148.1 bt154.1 (bt154.2 != 0)) else (eddywheellaw01_WordOrders.j0 k a0 a1 t137 bt144.1 bt146.1 bt148.1 bt154.1 true)) else (eddywheellaw01_WordOrders.j0 k a0 a1 t137 bt144.1 bt146.1 bt148.1 bt154.1 true)) else (eddywheellaw01_WordOrders.j0 k a0 a1 t137 bt144.1 bt146.1 bt148.1 bt154.1 true)) else (eddywheellaw01_WordOrders.j0 k a0 a1 t137 bt144.1 bt146.1 bt148.1 bt154.1 true)) else (eddywheellaw01_WordOrders.j0 k a0 a1 t137 bt144.1 bt146.1 bt148.1 bt154.1 true)) else (eddywheellaw01_WordOrders.j0 k a0 a1 t137 bt144.1 bt146.1 bt148.1 bt154.1 true)) else (eddywheellaw01_WordOrders.j0 k a0 a1 t137 bt144.1 bt146.1 bt148.1 bt154.1 true)) else (eddywheellaw01_WordOrders.j0 k a0 a1 t137 bt144.1 bt146.1 bt148.1 bt154.1 true)))))))) = some r := H
  have A7 := Aside0.mk A70
  clear A70
  replace H := Option.bind_eq_some_iff.mp H
  obtain ⟨⟨t144, t145⟩, A80, H⟩ := H
  replace H : ((word_Do.f k 60 t140 t138).bind fun bt146 => ((word_Do.f k 61 t138 t140).bind fun bt148 => ((word_Do.f k 43 t138 t142).bind fun bt150 => ((word_Do.f k 43 t140 t142).bind fun bt152 => ((word_Do.f k 60 bt150.1 bt152.1).bind fun bt154 => (if t139 = 0 then (if t141 = 0 then (if t143 = 0 then (if t145 = 0 then (if bt146.2 = 0 then (if bt148.2 = 0 then (if bt150.2 = 0 then (if bt152.2 = 0 then (eddywheellaw01_WordOrders.j0 k a0 a1 t137 t144 bt146.1 bt148.1 bt154.1 (bt154.2 != 0)) else (eddywheellaw01_WordOrders.j0 k a0 a1 t137 t144 bt146.1 bt148.1 bt154.1 true)) else (eddywheellaw01_WordOrders.j0 k a0 a1 t137 t144 bt146.1 bt148.1 bt154.1 true)) else (eddywheellaw01_WordOrders.j0 k a0 a1 t137 t144 bt146.1 bt148.1 bt154.1 true)) else (eddywheellaw01_WordOrders.j0 k a0 a1 t137 t144 bt146.1 bt148.1 bt154.1 true)) else (eddywheellaw01_WordOrders.j0 k a0 a1 t137 t144 bt146.1 bt148.1 bt154.1 true)) else (eddywheellaw01_WordOrders.j0 k a0 a1 t137 t144 bt146.1 bt148.1 bt154.1 true)) else (eddywheellaw01_WordOrders.j0 k a0 a1 t137 t144 bt146.1 bt148.1 bt154.1 true)) else (eddywheellaw01_WordOrders.j0 k a0 a1 t137 t144 bt146.1 bt148.1 bt154.1 true))))))) = some r := H
  have A8 := Aside0.mk A80
  clear A80
  replace H := Option.bind_eq_some_iff.mp H
  obtain ⟨⟨t146, t147⟩, A90, H⟩ := H
  replace H : ((word_Do.f k 61 t138 t140).bind fun bt148 => ((word_Do.f k 43 t138 t142).bind fun bt150 => ((word_Do.f k 43 t140 t142).bind fun bt152 => ((word_Do.f k 60 bt150.1 bt152.1).bind fun bt154 => (if t139 = 0 then (if t141 = 0 then (if t143 = 0 then (if t145 = 0 then (if t147 = 0 then (if bt148.2 = 0 then (if bt150.2 = 0 then (if bt152.2 = 0 then (eddywheellaw01_WordOrders.j0 k a0 a1 t137 t144 t146 bt148.1 bt154.1 (bt154.2 != 0)) else (eddywheellaw01_WordOrders.j0 k a0 a1 t137 t144 t146 bt148.1 bt154.1 true)) else (eddywheellaw01_WordOrders.j0 k a0 a1 t137 t144 t146 bt148.1 bt154.1 true)) else (eddywheellaw01_WordOrders.j0 k a0 a1 t137 t144 t146 bt148.1 bt154.1 true)) else (eddywheellaw01_WordOrders.j0 k a0 a1 t137 t144 t146 bt148.1 bt154.1 true)) else (eddywheellaw01_WordOrders.j0 k a0 a1 t137 t144 t146 bt148.1 bt154.1 true)) else (eddywheellaw01_WordOrders.j0 k a0 a1 t137 t144 t146 bt148.1 bt154.1 true)) else (eddywheellaw01_WordOrders.j0 k a0 a1 t137 t144 t146 bt148.1 bt154.1 true)) else (eddywheellaw01_WordOrders.j0 k a0 a1 t137 t144 t146 bt148.1 bt154.1 true)))))) = some r := H
  have A9 := Aside0.mk A90
  clear A90
  replace H := Option.bind_eq_some_iff.mp H
  obtain ⟨⟨t148, t149⟩, A100, H⟩ := H
  replace H : ((word_Do.f k 43 t138 t142).bind fun bt150 => ((word_Do.f k 43 t140 t142).bind fun bt152 => ((word_Do.f k 60 bt150.1 bt152.1).bind fun bt154 => (if t139 = 0 then (if t141 = 0 then (if t143 = 0 then (if t145 = 0 then (if t147 = 0 then (if t149 = 0 then (if bt150.2 = 0 then (if bt152.2 = 0 then (eddywheellaw01_WordOrders.j0 k a0 a1 t137 t144 t146 t148 bt154.1 (bt154.2 != 0)) else (eddywheellaw01_WordOrders.j0 k a0 a1 t137 t144 t146 t148 bt154.1 true)) else (eddywheellaw01_WordOrders.j0 k a0 a1 t137 t144 t146 t148 bt154.1 true)) else (eddywheellaw01_WordOrders.j0 k a0 a1 t137 t144 t146 t148 bt154.1 true)) else (eddywheellaw01_WordOrders.j0 k a0 a1 t137 t144 t146 t148 bt154.1 true)) else (eddywheellaw01_WordOrders.j0 k a0 a1 t137 t144 t146 t148 bt154.1 true)) else (eddywheellaw01_WordOrders.j0 k a0 a1 t137 t144 t146 t148 bt154.1 true)) else (eddywheellaw01_WordOrders.j0 k a0 a1 t137 t144 t146 t148 bt154.1 true)) else (eddywheellaw01_WordOrders.j0 k a0 a1 t137 t144 t146 t148 bt154.1 true))))) = some r := H
  have A10 := Aside0.mk A100
  clear A100
  replace H := Option.bind_eq_some_iff.mp H
  obtain ⟨⟨t150, t151⟩, A110, H⟩ := H
  replace H : ((word_Do.f k 43 t140 t142).bind fun bt152 => ((word_Do.f k 60 t150 bt152.1).bind fun bt154 => (if t139 = 0 then (if t141 = 0 then (if t143 = 0 then (if t145 = 0 then (if t147 = 0 then (if t149 = 0 then (if t151 = 0 then (if bt152.2 = 0 then (eddywheellaw01_WordOrders.j0 k a0 a1 t137 t144 t146 t148 bt154.1 (bt154.2 != 0)) else (eddywheellaw01_WordOrders.j0 k a0 a1 t137 t144 t146 t148 bt154.1 true)) else (eddywheellaw01_WordOrders.j0 k a0 a1 t137 t144 t146 t148 bt154.1 true)) else (eddywheellaw01_WordOrders.j0 k a0 a1 t137 t144 t146 t148 bt154.1 true)) else (eddywheellaw01_WordOrders.j0 k a0 a1 t137 t144 t146 t148 bt154.1 true)) else (eddywheellaw01_WordOrders.j0 k a0 a1 t137 t144 t146 t148 bt154.1 true)) else (eddywheellaw01_WordOrders.j0 k a0 a1 t137 t144 t146 t148 bt154.1 true)) else (eddywheellaw01_WordOrders.j0 k a0 a1 t137 t144 t146 t148 bt154.1 true)) else (eddywheellaw01_WordOrders.j0 k a0 a1 t137 t144 t146 t148 bt154.1 true)))) = some r := H
  have A11 := Aside0.mk A110
  clear A110
  replace H := Option.bind_eq_some_iff.mp H
  obtain ⟨⟨t152, t153⟩, A120, H⟩ := H
  replace H : ((word_Do.f k 60 t150 t152).bind fun bt154 => (if t139 = 0 then (if t141 = 0 then (if t143 = 0 then (if t145 = 0 then (if t147 = 0 then (if t149 = 0 then (if t151 = 0 then (if t153 = 0 then (eddywheellaw01_WordOrders.j0 k a0 a1 t137 t144 t146 t148 bt154.1 (bt154.2 != 0)) else (eddywheellaw01_WordOrders.j0 k a0 a1 t137 t144 t146 t148 bt154.1 true)) else (eddywheellaw01_WordOrders.j0 k a0 a1 t137 t144 t146 t148 bt154.1 true)) else (eddywheellaw01_WordOrders.j0 k a0 a1 t137 t144 t146 t148 bt154.1 true)) else (eddywheellaw01_WordOrders.j0 k a0 a1 t137 t144 t146 t148 bt154.1 true)) else (eddywheellaw01_WordOrders.j0 k a0 a1 t137 t144 t146 t148 bt154.1 true)) else (eddywheellaw01_WordOrders.j0 k a0 a1 t137 t144 t146 t148 bt154.1 true)) else (eddywheellaw01_WordOrders.j0 k a0 a1 t137 t144 t146 t148 bt154.1 true)) else (eddywheellaw01_WordOrders.j0 k a0 a1 t137 t144 t146 t148 bt154.1 true))) = some r := H
  have A12 := Aside0.mk A120
  clear A120
  replace H := Option.bind_eq_some_iff.mp H
  obtain ⟨⟨t154, t155⟩, A130, H⟩ := H
  replace H : (if t139 = 0 then (if t141 = 0 then (if t143 = 0 then (if t145 = 0 then (if t147 = 0 then (if t149 = 0 then (if t151 = 0 then (if t153 = 0 then (eddywheellaw01_WordOrders.j0 k a0 a1 t137 t144 t146 t148 t154 (t155 != 0)) else (eddywheellaw01_WordOrders.j0 k a0 a1 t137 t144 t146 t148 t154 true)) else (eddywheellaw01_WordOrders.j0 k a0 a1 t137 t144 t146 t148 t154 true)) else (eddywheellaw01_WordOrders.j0 k a0 a1 t137 t144 t146 t148 t154 true)) else (eddywheellaw01_WordOrders.j0 k a0 a1 t137 t144 t146 t148 t154 true)) else (eddywheellaw01_WordOrders.j0 k a0 a1 t137 t144 t146 t148 t154 true)) else (eddywheellaw01_WordOrders.j0 k a0 a1 t137 t144 t146 t148 t154 true)) else (eddywheellaw01_WordOrders.j0 k a0 a1 t137 t144 t146 t148 t154 true)) else (eddywheellaw01_WordOrders.j0 k a0 a1 t137 t144 t146 t148 t154 true)) = some r := H
  have A13 := Aside0.mk A130
  clear A130
  have HC14 := Aside0.mk H
  clear H
  go_enter Try.func5, Try.ntmps5
  go_upto_region 11 with (first | ((with_reducible refine gate_callee (f := 13) rfl ?_); refine goesL_ (some 29) rfl rfl Try.func13 (by kernel_rfl) rfl #[] rfl (by (try simp only [List.map_toArray, List.map_cons, List.map_nil]); first | done | rfl | (simp only [List.length_drop, List.length_take]; rfl)) ?_; (with_reducible refine (eddywheellaw01_shown.calls k  t137 _ A4.out).mono ?_); rintro e w15 ⟨rfl, hb⟩; refine ⟨_, rfl, ?_⟩; have n0_ := Aside0.mk (below_step (by repeat (first | (with_reducible first | exact HB.out | apply below_alloc | apply pw_below_drewN | apply below_drew1) | exact HB.out)) hb); clear HB; have HB := n0_; clear n0_; (try clear hb); (try clear hb2); (try clear hk); (try clear hi)) | ((with_reducible refine gate_callee (f := 14) rfl ?_); refine goesL_ (some 33) rfl rfl Try.func14 (by kernel_rfl) rfl #[.int .i64 (Int.tmod a0 274877906944)] rfl (by (try simp only [List.map_toArray, List.map_cons, List.map_nil]); first | done | rfl | (simp only [List.length_drop, List.length_take]; rfl)) ?_; (with_reducible refine (word_Int.calls (Int.tmod a0 274877906944) t138 t139 _ A5.out).mono ?_); rintro e w' ⟨rfl, ⟨nd, rfl⟩⟩; refine ⟨_, rfl, ?_⟩) | ((with_reducible refine gate_callee (f := 14) rfl ?_); refine goesL_ (some 39) rfl rfl Try.func14 (by kernel_rfl) rfl #[.int .i64 (Int.tmod a1 274877906944)] rfl (by (try simp only [List.map_toArray, List.map_cons, List.map_nil]); first | done | rfl | (simp only [List.length_drop, List.length_take]; rfl)) ?_; (with_reducible refine (word_Int.calls (Int.tmod a1 274877906944) t140 t141 _ A6.out).mono ?_); rintro e w' ⟨rfl, ⟨nd, rfl⟩⟩; refine ⟨_, rfl, ?_⟩) | ((with_reducible refine gate_callee (f := 14) rfl ?_); refine goesL_ (some 45) rfl rfl Try.func14 (by kernel_rfl) rfl #[.int .i64 (Int.tmod a2 274877906944)] rfl (by (try simp only [List.map_toArray, List.map_cons, List.map_nil]); first | done | rfl | (simp only [List.length_drop, List.length_take]; rfl)) ?_; (with_reducible refine (word_Int.calls (Int.tmod a2 274877906944) t142 t143 _ A7.out).mono ?_); rintro e w' ⟨rfl, ⟨nd, rfl⟩⟩; refine ⟨_, rfl, ?_⟩) | ((with_reducible refine gate_callee (f := 11) rfl ?_); refine goesL_ (some 51) rfl rfl Try.func11 (by kernel_rfl) rfl #[.int .u8 60, .int .u64 t138, .int .u64 t140] rfl (by (try simp only [List.map_toArray, List.map_cons, List.map_nil]); first | done | rfl | (simp only [List.length_drop, List.length_take]; rfl)) ?_; (with_reducible refine (word_Do.calls k 60 t138 t140 t144 t145 _ A8.out).mono ?_); rintro e w16 ⟨rfl, hb⟩; refine ⟨_, rfl, ?_⟩; have n0_ := Aside0.mk (below_step (by repeat (first | (with_reducible first | exact HB.out | apply below_alloc | apply pw_below_drewN | apply below_drew1) | exact HB.out)) hb); clear HB; have HB := n0_; clear n0_; (try clear hb); (try clear hb2); (try clear hk); (try clear hi)) | ((with_reducible refine gate_callee (f := 11) rfl ?_); refine goesL_ (some 57) rfl rfl Try.func11 (by kernel_rfl) rfl #[.int .u8 60, .int .u64 t140, .int .u64 t138] rfl (by (try simp only [List.map_toArray, List.map_cons, List.map_nil]); first | done | rfl | (simp only [List.length_drop, List.length_take]; rfl)) ?_; (with_reducible refine (word_Do.calls k 60 t140 t138 t146 t147 _ A9.out).mono ?_); rintro e w17 ⟨rfl, hb⟩; refine ⟨_, rfl, ?_⟩; have n0_ := Aside0.mk (below_step (by repeat (first | (with_reducible first | exact HB.out | apply below_alloc | apply pw_below_drewN | apply below_drew1) | exact HB.out)) hb); clear HB; have HB := n0_; clear n0_; (try clear hb); (try clear hb2); (try clear hk); (try clear hi)) | ((with_reducible refine gate_callee (f := 11) rfl ?_); refine goesL_ (some 63) rfl rfl Try.func11 (by kernel_rfl) rfl #[.int .u8 61, .int .u64 t138, .int .u64 t140] rfl (by (try simp only [List.map_toArray, List.map_cons, List.map_nil]); first | done | rfl | (simp only [List.length_drop, List.length_take]; rfl)) ?_; (with_reducible refine (word_Do.calls k 61 t138 t140 t148 t149 _ A10.out).mono ?_); rintro e w18 ⟨rfl, hb⟩; refine ⟨_, rfl, ?_⟩; have n0_ := Aside0.mk (below_step (by repeat (first | (with_reducible first | exact HB.out | apply below_alloc | apply pw_below_drewN | apply below_drew1) | exact HB.out)) hb); clear HB; have HB := n0_; clear n0_; (try clear hb); (try clear hb2); (try clear hk); (try clear hi)) | ((with_reducible refine gate_callee (f := 11) rfl ?_); refine goesL_ (some 69) rfl rfl Try.func11 (by kernel_rfl) rfl #[.int .u8 43, .int .u64 t138, .int .u64 t142] rfl (by (try simp only [List.map_toArray, List.map_cons, List.map_nil]); first | done | rfl | (simp only [List.length_drop, List.length_take]; rfl)) ?_; (with_reducible refine (word_Do.calls k 43 t138 t142 t150 t151 _ A11.out).mono ?_); rintro e w19 ⟨rfl, hb⟩; refine ⟨_, rfl, ?_⟩; have n0_ := Aside0.mk (below_step (by repeat (first | (with_reducible first | exact HB.out | apply below_alloc | apply pw_below_drewN | apply below_drew1) | exact HB.out)) hb); clear HB; have HB := n0_; clear n0_; (try clear hb); (try clear hb2); (try clear hk); (try clear hi)) | ((with_reducible refine gate_callee (f := 11) rfl ?_); refine goesL_ (some 75) rfl rfl Try.func11 (by kernel_rfl) rfl #[.int .u8 43, .int .u64 t140, .int .u64 t142] rfl (by (try simp only [List.map_toArray, List.map_cons, List.map_nil]); first | done | rfl | (simp only [List.length_drop, List.length_take]; rfl)) ?_; (with_reducible refine (word_Do.calls k 43 t140 t142 t152 t153 _ A12.out).mono ?_); rintro e w20 ⟨rfl, hb⟩; refine ⟨_, rfl, ?_⟩; have n0_ := Aside0.mk (below_step (by repeat (first | (with_reducible first | exact HB.out | apply below_alloc | apply pw_below_drewN | apply below_drew1) | exact HB.out)) hb); clear HB; have HB := n0_; clear n0_; (try clear hb); (try clear hb2); (try clear hk); (try clear hi)) | ((with_reducible refine gate_callee (f := 11) rfl ?_); refine goesL_ (some 81) rfl rfl Try.func11 (by kernel_rfl) rfl #[.int .u8 60, .int .u64 t150, .int .u64 t152] rfl (by (try simp only [List.map_toArray, List.map_cons, List.map_nil]); first | done | rfl | (simp only [List.length_drop, List.length_take]; rfl)) ?_; (with_reducible refine (word_Do.calls k 60 t150 t152 t154 t155 _ A13.out).mono ?_); rintro e w21 ⟨rfl, hb⟩; refine ⟨_, rfl, ?_⟩; have n0_ := Aside0.mk (below_step (by repeat (first | (with_reducible first | exact HB.out | apply below_alloc | apply pw_below_drewN | apply below_drew1) | exact HB.out)) hb); clear HB; have HB := n0_; clear n0_; (try clear hb); (try clear hb2); (try clear hk); (try clear hi)))
  (try simp only [Act.put, List.setIfInBounds_toArray, List.set_cons_zero, List.set_cons_succ])
  go_cut [117] (fun v117 wc => ∃ (kq : Nat) (x117_13 : Bool), v117 = .bool x117_13 ∧ Aside0 (eddywheellaw01_WordOrders.j0 kq a0 a1 t137 t144 t146 t148 t154 x117_13 = some r) ∧ Aside0 (kq ≤ k) ∧ Aside0 (Below w.heap.size w wc))
  case first =>
    have H := HC14.out
    clear HC14
    by_cases c22 : t139 = 0
    · rw [if_pos c22] at H
      have c22b0 : (t139 == 0) = true := beq_iff_eq.mpr c22
      have c22b1 : (t139 != 0) = false := bne_eq_false_iff_eq.mpr c22
      clear c22
      (first | rw [c22b0] | (simp only [i64_w, i32_w]; rw [c22b0]) | skip)
      by_cases c23 : t141 = 0
      · rw [if_pos c23] at H
        have c23b0 : (t141 == 0) = true := beq_iff_eq.mpr c23
        have c23b1 : (t141 != 0) = false := bne_eq_false_iff_eq.mpr c23
        clear c23
        by_cases c24 : t143 = 0
        · rw [if_pos c24] at H
          have c24b0 : (t143 == 0) = true := beq_iff_eq.mpr c24
          have c24b1 : (t143 != 0) = false := bne_eq_false_iff_eq.mpr c24
          clear c24
          by_cases c25 : t145 = 0
          · rw [if_pos c25] at H
            have c25b0 : (t145 == 0) = true := beq_iff_eq.mpr c25
            have c25b1 : (t145 != 0) = false := bne_eq_false_iff_eq.mpr c25
            clear c25
            by_cases c26 : t147 = 0
            · rw [if_pos c26] at H
              have c26b0 : (t147 == 0) = true := beq_iff_eq.mpr c26
              have c26b1 : (t147 != 0) = false := bne_eq_false_iff_eq.mpr c26
              clear c26
              by_cases c27 : t149 = 0
              · rw [if_pos c27] at H
                have c27b0 : (t149 == 0) = true := beq_iff_eq.mpr c27
                have c27b1 : (t149 != 0) = false := bne_eq_false_iff_eq.mpr c27
                clear c27
                by_cases c28 : t151 = 0
                · rw [if_pos c28] at H
                  have c28b0 : (t151 == 0) = true := beq_iff_eq.mpr c28
                  have c28b1 : (t151 != 0) = false := bne_eq_false_iff_eq.mpr c28
                  clear c28
                  by_cases c29 : t153 = 0
                  · rw [if_pos c29] at H
                    have c29b0 : (t153 == 0) = true := beq_iff_eq.mpr c29
                    have c29b1 : (t153 != 0) = false := bne_eq_false_iff_eq.mpr c29
                    clear c29
                    have H' := Aside0.mk H
                    clear H
                    go_wp2
                    go_meet
                    case rel => exact ⟨_, ((t155 != 0)), (by first | rfl | (simp; done) | (simp [*]; done)), H', ⟨by first | omega | exact Nat.le_refl _⟩, ⟨by repeat (first | (with_reducible first | exact HB.out | apply below_alloc | apply pw_below_drewN | apply below_drew1) | exact HB.out)⟩⟩
                  · rw [if_neg c29] at H
                    have c29b0 : (t153 == 0) = false := beq_eq_false_iff_ne.mpr c29
                    have c29b1 : (t153 != 0) = true := bne_iff_ne.mpr c29
                    have H' := Aside0.mk H
                    clear H
                    go_wp2
                    go_meet
                    case rel => exact ⟨_, (true), (by first | rfl | (simp; done) | (simp [*]; done)), H', ⟨by first | omega | exact Nat.le_refl _⟩, ⟨by repeat (first | (with_reducible first | exact HB.out | apply below_alloc | apply pw_below_drewN | apply below_drew1) | exact HB.out)⟩⟩
                · rw [if_neg c28] at H
                  have c28b0 : (t151 == 0) = false := beq_eq_false_iff_ne.mpr c28
                  have c28b1 : (t151 != 0) = true := bne_iff_ne.mpr c28
                  have H' := Aside0.mk H
                  clear H
                  go_wp2
                  go_meet
                  case rel => exact ⟨_, (true), (by first | rfl | (simp; done) | (simp [*]; done)), H', ⟨by first | omega | exact Nat.le_refl _⟩, ⟨by repeat (first | (with_reducible first | exact HB.out | apply below_alloc | apply pw_below_drewN | apply below_drew1) | exact HB.out)⟩⟩
              · rw [if_neg c27] at H
                have c27b0 : (t149 == 0) = false := beq_eq_false_iff_ne.mpr c27
                have c27b1 : (t149 != 0) = true := bne_iff_ne.mpr c27
                have H' := Aside0.mk H
                clear H
                go_wp2
                go_meet
                case rel => exact ⟨_, (true), (by first | rfl | (simp; done) | (simp [*]; done)), H', ⟨by first | omega | exact Nat.le_refl _⟩, ⟨by repeat (first | (with_reducible first | exact HB.out | apply below_alloc | apply pw_below_drewN | apply below_drew1) | exact HB.out)⟩⟩
            · rw [if_neg c26] at H
              have c26b0 : (t147 == 0) = false := beq_eq_false_iff_ne.mpr c26
              have c26b1 : (t147 != 0) = true := bne_iff_ne.mpr c26
              have H' := Aside0.mk H
              clear H
              go_wp2
              go_meet
              case rel => exact ⟨_, (true), (by first | rfl | (simp; done) | (simp [*]; done)), H', ⟨by first | omega | exact Nat.le_refl _⟩, ⟨by repeat (first | (with_reducible first | exact HB.out | apply below_alloc | apply pw_below_drewN | apply below_drew1) | exact HB.out)⟩⟩
          · rw [if_neg c25] at H
            have c25b0 : (t145 == 0) = false := beq_eq_false_iff_ne.mpr c25
            have c25b1 : (t145 != 0) = true := bne_iff_ne.mpr c25
            have H' := Aside0.mk H
            clear H
            go_wp2
            go_meet
            case rel => exact ⟨_, (true), (by first | rfl | (simp; done) | (simp [*]; done)), H', ⟨by first | omega | exact Nat.le_refl _⟩, ⟨by repeat (first | (with_reducible first | exact HB.out | apply below_alloc | apply pw_below_drewN | apply below_drew1) | exact HB.out)⟩⟩
        · rw [if_neg c24] at H
          have c24b0 : (t143 == 0) = false := beq_eq_false_iff_ne.mpr c24
          have c24b1 : (t143 != 0) = true := bne_iff_ne.mpr c24
          have H' := Aside0.mk H
          clear H
          go_wp2
          go_meet
          case rel => exact ⟨_, (true), (by first | rfl | (simp; done) | (simp [*]; done)), H', ⟨by first | omega | exact Nat.le_refl _⟩, ⟨by repeat (first | (with_reducible first | exact HB.out | apply below_alloc | apply pw_below_drewN | apply below_drew1) | exact HB.out)⟩⟩
      · rw [if_neg c23] at H
        have c23b0 : (t141 == 0) = false := beq_eq_false_iff_ne.mpr c23
        have c23b1 : (t141 != 0) = true := bne_iff_ne.mpr c23
        have H' := Aside0.mk H
        clear H
        go_wp2
        go_meet
        case rel => exact ⟨_, (true), (by first | rfl | (simp; done) | (simp [*]; done)), H', ⟨by first | omega | exact Nat.le_refl _⟩, ⟨by repeat (first | (with_reducible first | exact HB.out | apply below_alloc | apply pw_below_drewN | apply below_drew1) | exact HB.out)⟩⟩
    · rw [if_neg c22] at H
      have c22b0 : (t139 == 0) = false := beq_eq_false_iff_ne.mpr c22
      have c22b1 : (t139 != 0) = true := bne_iff_ne.mpr c22
      (first | rw [c22b0] | (simp only [i64_w, i32_w]; rw [c22b0]) | skip)
      have H' := Aside0.mk H
      clear H
      go_wp2
      go_meet
      case rel => exact ⟨_, (true), (by first | rfl | (simp; done) | (simp [*]; done)), H', ⟨by first | omega | exact Nat.le_refl _⟩, ⟨by repeat (first | (with_reducible first | exact HB.out | apply below_alloc | apply pw_below_drewN | apply below_drew1) | exact HB.out)⟩⟩
  case rest =>
    clear HC14
    try clear c1
    try clear c2
    try clear p2
    try clear c5
    try clear c11
    try clear c13
    try clear c14
    try clear c22
    try clear c22b0
    try clear c22b1
    try clear c23
    try clear c23b0
    try clear c23b1
    try clear c24
    try clear c24b0
    try clear c24b1
    try clear c25
    try clear c25b0
    try clear c25b1
    try clear c26
    try clear c26b0
    try clear c26b1
    try clear c27
    try clear c27b0
    try clear c27b1
    try clear c28
    try clear c28b0
    try clear c28b1
    try clear c29
    try clear c29b0
    try clear c29b1
    obtain ⟨kq, x117_13, rfl, HA, HJ13, HB⟩ := hcut
    cases kq with
    | zero => exact absurd HA.out (by simp [eddywheellaw01_WordOrders.j0])
    | succ kj13 =>
      have H := HA.out
      clear HA
      simp only [eddywheellaw01_WordOrders.j0] at H
      by_cases c30 : x117_13 = true
      · subst c30
        have H1 : (some false) = some r := by rw [if_pos rfl] at H; exact H
        clear H
        have H := H1
        clear H1
        obtain rfl := Option.some.inj H
        go_wp2
        go_ret
        exact ⟨by first | rfl | (simp [errW_none, errW_some] <;> rfl) | (simp [*, errW_none, errW_some] <;> rfl), by repeat (first | (with_reducible first | exact HB.out | apply below_alloc | apply pw_below_drewN | apply below_drew1) | exact HB.out)⟩
      · replace c30 := Bool.eq_false_iff.mpr c30
        subst c30
        have H1 : ((some (([t144, t146, t148] : List Int) : List Int)).bind fun y156 => (eddywheellaw01_WordOrders.l0 kj13 a0 a1 t137 t144 t154 0 y156 (y156.length : Int) 0)) = some r := by rw [if_neg (show ¬ (false = true) by decide)] at H; exact H
        clear H
        have H := H1
        clear H1
        obtain ⟨y156, hy156⟩ : ∃ y_ : List Int, y_ = (([t144, t146, t148] : List Int)) := ⟨_, rfl⟩
        replace H : (eddywheellaw01_WordOrders.l0 kj13 a0 a1 t137 t144 t154 0 y156 (y156.length : Int) 0) = some r := by first | (rw [hy156]; with_reducible exact H) | (have H2_ := (Option.bind_some _ _).symm.trans H; rw [hy156]; with_reducible exact H2_) | (have H2_ := (Option.bind_some _ _).symm.trans H; with_reducible exact H2_) | with_reducible exact H | (rw [hy156]; exact H) | exact H
        have Ny156 := Aside0.mk hy156
        clear hy156
        have H' := Aside0.mk H
        clear H
        go_wp2_with (first | ((with_reducible refine gate_dst (N := 121) rfl ?_); refine Kd.R_lit (Kd.int .u64) _ 23 ?hg (N := 121) ?hd (xs := ([t144, t146, t148] : List Int)) (inner := [.int .u64 t144, .int .u64 t146, .int .u64 t148]) (ok := fun _ => True) (okp := fun _ => True) ?hr ?hp (fun _ hk => hk) trivial (Below.refl _ _) (Nat.le_refl _) (by simp) ?_; (case hd => rfl); (case hg => rfl); (case hr => first | (go_simp; done) | (go_simp; rfl)); (case hp => exact (Reps.one (show Kd.M (Kd.int .u64) _ _ _ t144 [.int .u64 t144] from rfl) (Reps.one (show Kd.M (Kd.int .u64) _ _ _ t146 [.int .u64 t146] from rfl) (Reps.one (show Kd.M (Kd.int .u64) _ _ _ t148 [.int .u64 t148] from rfl) (Reps.none _ _))))); intro v157 w31 ho32 hb hg_ hnew_; clear hg_ hnew_; (first | rw [← Ny156.out] at ho32 | (simp only [Int.reduceToNat] at ho32; rw [← Ny156.out] at ho32)); have n0_ := Aside0.mk (Kd.R_lower ho32 (below_size (by repeat (first | (with_reducible first | exact HB.out | apply below_alloc | apply pw_below_drewN | apply below_drew1) | exact HB.out)))); have n1_ := Aside0.mk (below_step (by repeat (first | (with_reducible first | exact HB.out | apply below_alloc | apply pw_below_drewN | apply below_drew1) | exact HB.out)) hb); clear HB; have HO158 := n0_; have HB := n1_; clear n0_ n1_; clear hb ho32; obtain ⟨Ao33, co33, eo33⟩ := Kd.R_slice HO158.out; subst eo33))
        go_loopg [26, 123] kj13 (fun kq v26 v123 w' => ∃ (x26_2 : Int) (x123_2 : Int), v26 = .int .i64 x26_2 ∧ v123 = .int .i64 x123_2 ∧ Aside0 (eddywheellaw01_WordOrders.l0 kq a0 a1 t137 t144 t154 x26_2 y156 (y156.length : Int) x123_2 = some r) ∧ Aside0 (kq ≤ kj13) ∧ Aside0 (Kd.R (Kd.int .u64) 23 w' w.heap.size (fun _ => True) (.slice Ao33 y156.length co33) y156) ∧ Aside0 (Below w.heap.size w w'))
        case atStart => exact ⟨(0), (0), (by first | rfl | (simp; done) | (simp [*]; done)), (by first | rfl | (simp; done) | (simp [*]; done)), H', ⟨Nat.le_refl _⟩, ⟨by (with_reducible repeat (first | apply Kd.R_alloc | apply Kd.R_drewN | apply Kd.R_drew)); exact HO158.out⟩, ⟨by repeat (first | (with_reducible first | exact HB.out | apply below_alloc | apply pw_below_drewN | apply below_drew1) | exact HB.out)⟩⟩
        case round =>
          clear H'
          try clear c1
          try clear c2
          try clear p2
          try clear c3
          try clear c5
          try clear c11
          try clear c13
          try clear c14
          try clear c22
          try clear c22b0
          try clear c22b1
          try clear c23
          try clear c23b0
          try clear c23b1
          try clear c24
          try clear c24b0
          try clear c24b1
          try clear c25
          try clear c25b0
          try clear c25b1
          try clear c26
          try clear c26b0
          try clear c26b1
          try clear c27
          try clear c27b0
          try clear c27b1
          try clear c28
          try clear c28b0
          try clear c28b1
          try clear c29
          try clear c29b0
          try clear c29b1
          try clear c30
          try clear p2
          obtain ⟨x26_2, x123_2, rfl, rfl, HA, HK2, HO_121, HB⟩ := hrel
          cases gk with
          | zero => exact absurd HA.out (by simp [eddywheellaw01_WordOrders.l0])
          | succ k2 =>
            have H := HA.out
            clear HA
            simp only [eddywheellaw01_WordOrders.l0] at H
            by_cases c34 : x123_2 < (y156.length : Int)
            · rw [if_pos c34] at H
              have c34b0 : decide (x123_2 < (y156.length : Int)) = true := decide_eq_true c34
              clear c34
              by_cases c35 : 0 ≤ x123_2
              · rw [if_pos c35] at H
                have c35b0 : decide (0 ≤ x123_2) = true := decide_eq_true c35
                clear c35
                by_cases c36 : x123_2 < (y156.length : Int)
                · rw [if_pos c36] at H
                  have c36b0 : decide (x123_2 < (y156.length : Int)) = true := decide_eq_true c36
                  clear c36
                  by_cases c37 : (rd y156 x123_2) = 18
                  · rw [if_pos c37] at H
                    have c37b0 : ((rd y156 x123_2) == 18) = true := beq_iff_eq.mpr c37
                    have c37b1 : ((rd y156 x123_2) != 18) = false := bne_eq_false_iff_eq.mpr c37
                    clear c37
                    have H' := Aside0.mk H
                    clear H
                    have p159 : 0 ≤ (x123_2 : Int) := of_decide_eq_true (by first | (with_reducible assumption) | assumption)
                    have q159 : x123_2 < (y156.length : Int) := of_decide_eq_true (by first | (with_reducible assumption) | assumption)
                    obtain ⟨ad159, e159, hx159_0⟩ := Kd.at_int (Kd.R_reads' HO_121.out).2.2 x123_2 p159 q159
                    cases e159
                    replace p159 := eq_true p159
                    replace q159 := eq_true q159
                    go_wp2
                    go_roundg k2
                    case measure => have := HJ13.out; have := HK2.out; omega
                    case rel => exact ⟨(wrap64 (x26_2 + 1)), (wrap64 (x123_2 + 1)), (by first | rfl | (simp; done) | (simp [*]; done)), (by first | rfl | (simp; done) | (simp [*]; done)), H', ⟨by have := HJ13.out; have := HK2.out; omega⟩, ⟨by (with_reducible repeat (first | apply Kd.R_alloc | apply Kd.R_drewN | apply Kd.R_drew)); exact HO_121.out⟩, ⟨by repeat (first | (with_reducible first | exact HB.out | apply below_alloc | apply pw_below_drewN | apply below_drew1) | exact HB.out)⟩⟩
                  · rw [if_neg c37] at H
                    have c37b0 : ((rd y156 x123_2) == 18) = false := beq_eq_false_iff_ne.mpr c37
                    have c37b1 : ((rd y156 x123_2) != 18) = true := bne_iff_ne.mpr c37
                    by_cases c38 : (rd y156 x123_2) = 10
                    · rw [if_pos c38] at H
                      have c38b0 : ((rd y156 x123_2) == 10) = true := beq_iff_eq.mpr c38
                      have c38b1 : ((rd y156 x123_2) != 10) = false := bne_eq_false_iff_eq.mpr c38
                      clear c38
                      have H' := Aside0.mk H
                      clear H
                      have p159 : 0 ≤ (x123_2 : Int) := of_decide_eq_true (by first | (with_reducible assumption) | assumption)
                      have q159 : x123_2 < (y156.length : Int) := of_decide_eq_true (by first | (with_reducible assumption) | assumption)
                      obtain ⟨ad159, e159, hx159_0⟩ := Kd.at_int (Kd.R_reads' HO_121.out).2.2 x123_2 p159 q159
                      cases e159
                      replace p159 := eq_true p159
                      replace q159 := eq_true q159
                      go_wp2
                      go_roundg k2
                      case measure => have := HJ13.out; have := HK2.out; omega
                      case rel => exact ⟨(x26_2), (wrap64 (x123_2 + 1)), (by first | rfl | (simp; done) | (simp [*]; done)), (by first | rfl | (simp; done) | (simp [*]; done)), H', ⟨by have := HJ13.out; have := HK2.out; omega⟩, ⟨by (with_reducible repeat (first | apply Kd.R_alloc | apply Kd.R_drewN | apply Kd.R_drew)); exact HO_121.out⟩, ⟨by repeat (first | (with_reducible first | exact HB.out | apply below_alloc | apply pw_below_drewN | apply below_drew1) | exact HB.out)⟩⟩
                    · rw [if_neg c38] at H
                      have c38b0 : ((rd y156 x123_2) == 10) = false := beq_eq_false_iff_ne.mpr c38
                      have c38b1 : ((rd y156 x123_2) != 10) = true := bne_iff_ne.mpr c38
                      obtain rfl := Option.some.inj H
                      have p159 : 0 ≤ (x123_2 : Int) := of_decide_eq_true (by first | (with_reducible assumption) | assumption)
                      have q159 : x123_2 < (y156.length : Int) := of_decide_eq_true (by first | (with_reducible assumption) | assumption)
                      obtain ⟨ad159, e159, hx159_0⟩ := Kd.at_int (Kd.R_reads' HO_121.out).2.2 x123_2 p159 q159
                      cases e159
                      replace p159 := eq_true p159
                      replace q159 := eq_true q159
                      go_wp2
                      go_ret
                      exact ⟨by first | rfl | (simp [errW_none, errW_some] <;> rfl) | (simp [*, errW_none, errW_some] <;> rfl), by repeat (first | (with_reducible first | exact HB.out | apply below_alloc | apply pw_below_drewN | apply below_drew1) | exact HB.out)⟩
                · rw [if_neg c36] at H
                  exact absurd H (by simp)
              · rw [if_neg c35] at H
                exact absurd H (by simp)
            · rw [if_neg c34] at H
              have c34b0 : decide (x123_2 < (y156.length : Int)) = false := decide_eq_false c34
              clear c34
              by_cases c39 : t137 = true
              · subst c39
                have H1 : (if x26_2 = 1 then (if t154 = t144 then (some ((t144 == 18) == (decide ((Int.tmod a0 274877906944) < (Int.tmod a1 274877906944))))) else (some false)) else (some false)) = some r := by rw [if_pos rfl] at H; exact H
                clear H
                have H := H1
                clear H1
                by_cases c40 : x26_2 = 1
                · rw [if_pos c40] at H
                  have c40b0 : (x26_2 == 1) = true := beq_iff_eq.mpr c40
                  have c40b1 : (x26_2 != 1) = false := bne_eq_false_iff_eq.mpr c40
                  clear c40
                  by_cases c41 : t154 = t144
                  · rw [if_pos c41] at H
                    have c41b0 : (t154 == t144) = true := beq_iff_eq.mpr c41
                    have c41b1 : (t154 != t144) = false := bne_eq_false_iff_eq.mpr c41
                    clear c41
                    obtain rfl := Option.some.inj H
                    go_wp2
                    go_ret
                    exact ⟨by first | rfl | (simp [errW_none, errW_some] <;> rfl) | (simp [*, errW_none, errW_some] <;> rfl), by repeat (first | (with_reducible first | exact HB.out | apply below_alloc | apply pw_below_drewN | apply below_drew1) | exact HB.out)⟩
                  · rw [if_neg c41] at H
                    have c41b0 : (t154 == t144) = false := beq_eq_false_iff_ne.mpr c41
                    have c41b1 : (t154 != t144) = true := bne_iff_ne.mpr c41
                    obtain rfl := Option.some.inj H
                    go_wp2
                    go_ret
                    exact ⟨by first | rfl | (simp [errW_none, errW_some] <;> rfl) | (simp [*, errW_none, errW_some] <;> rfl), by repeat (first | (with_reducible first | exact HB.out | apply below_alloc | apply pw_below_drewN | apply below_drew1) | exact HB.out)⟩
                · rw [if_neg c40] at H
                  have c40b0 : (x26_2 == 1) = false := beq_eq_false_iff_ne.mpr c40
                  have c40b1 : (x26_2 != 1) = true := bne_iff_ne.mpr c40
                  obtain rfl := Option.some.inj H
                  go_wp2
                  go_ret
                  exact ⟨by first | rfl | (simp [errW_none, errW_some] <;> rfl) | (simp [*, errW_none, errW_some] <;> rfl), by repeat (first | (with_reducible first | exact HB.out | apply below_alloc | apply pw_below_drewN | apply below_drew1) | exact HB.out)⟩
              · replace c39 := Bool.eq_false_iff.mpr c39
                subst c39
                have H1 : (some false) = some r := by rw [if_neg (show ¬ (false = true) by decide)] at H; exact H
                clear H
                have H := H1
                clear H1
                obtain rfl := Option.some.inj H
                go_wp2
                go_ret
                exact ⟨by first | rfl | (simp [errW_none, errW_some] <;> rfl) | (simp [*, errW_none, errW_some] <;> rfl), by repeat (first | (with_reducible first | exact HB.out | apply below_alloc | apply pw_below_drewN | apply below_drew1) | exact HB.out)⟩

/-- THE ONE PURE STATEMENT of eddywheellaw01_WordOrders: yours. -/
def eddywheellaw01_WordOrders.Pure : Prop := ∀ (a0 : Int) (a1 : Int) (a2 : Int), (Lit.int .i64 a0).wf = true → (Lit.int .i64 a1).wf = true → (Lit.int .i64 a2).wf = true → ∃ k, eddywheellaw01_WordOrders.f k a0 a1 a2 = some true
theorem eddywheellaw01_WordOrders.walk (P : eddywheellaw01_WordOrders.Pure) (a0 : Int) (a1 : Int) (a2 : Int) (w : World) (w0 : (Lit.int .i64 a0).wf = true) (w1 : (Lit.int .i64 a1).wf = true) (w2 : (Lit.int .i64 a2).wf = true) :
    Calls Try.prog 5 #[.int .i64 a0, .int .i64 a1, .int .i64 a2] w fun e w' => e = .returned (.bool true) ∧ Below w.heap.size w w' := by
  obtain ⟨k, h⟩ := P a0 a1 a2 w0 w1 w2
  refine (eddywheellaw01_WordOrders.calls k a0 a1 a2 true w h).mono ?_
  rintro e w' ⟨rfl, hd⟩
  exact ⟨rfl, hd⟩

end Go.Proofs.Ytfabipoeollidaa.PWordOrders

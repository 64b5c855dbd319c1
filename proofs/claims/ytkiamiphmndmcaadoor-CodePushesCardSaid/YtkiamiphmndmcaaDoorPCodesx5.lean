-- Written by xprint.py (a program of the prover's) over the kit's printer.
import Derived.Test.YtkiamiphmndmcaaDoorPCodesx0
namespace Go.Proofs.YtkiamiphmndmcaaDoor.PCodes
open Go.RowKit Go.Proofs.YtkiamiphmndmcaaDoorW.PrintWords Go.Proofs.YtkiamiphmndmcaaDoorW.PrintLast Go.Proofs.YtkiamiphmndmcaaDoorW.PrintMore
attribute [local go_sem] max2_int min2_int max_two min_two max_three min_three max_four min_four   -- for this text's walks alone
set_option linter.unusedVariables false
set_option linter.unusedSimpArgs false

/-! ### eddywheellaw11_beyond: function 12 -/
def eddywheellaw11_beyond.f (l0 : List (S31)) (a1 : Int) (a2 : Int) : Option (Bool) := if a1 < (l0.length : Int) then (if 0 ≤ a1 then (if a2 < (((rd_T31 l0 a1).f1).length : Int) then (if 0 ≤ a2 then (if ((rd_T38 ((rd_T31 l0 a1).f1) a2).f0) = 10 then (some (((rd_T38 ((rd_T31 l0 a1).f1) a2).f1) == (l0.length : Int))) else (some false)) else (none)) else (some false)) else (none)) else (some false)
set_option maxHeartbeats 8000000 in
set_option maxRecDepth 100000 in
theorem eddywheellaw11_beyond.calls (A0 : Option Addr) (c0 : Nat) (l0 : List (S31)) (a1 : Int) (a2 : Int) (r : Bool) (w : World) (hr0 : Kd.C k31 w A0 l0.length l0) (hc0 : l0.length ≤ c0) (h : eddywheellaw11_beyond.f l0 a1 a2 = some r) :
    Calls Tryd.prog 12 #[.slice A0 l0.length c0, .int .i64 a1, .int .i64 a2] w fun e w' => e = .returned (.bool r) ∧ Drawn0 w w' := by
  have HR0 := Aside0.mk hr0
  have HC0 := Aside0.mk hc0
  clear hr0 hc0
  have H : (if a1 < (l0.length : Int) then (if 0 ≤ a1 then (if a2 < (((rd_T31 l0 a1).f1).length : Int) then (if 0 ≤ a2 then (if ((rd_T38 ((rd_T31 l0 a1).f1) a2).f0) = 10 then (some (((rd_T38 ((rd_T31 l0 a1).f1) a2).f1) == (l0.length : Int))) else (some false)) else (none)) else (some false)) else (none)) else (some false)) = some r := h
  clear h
  by_cases c4 : a1 < (l0.length : Int)
  · rw [if_pos c4] at H
    have c4b0 : decide (a1 < (l0.length : Int)) = true := decide_eq_true c4
    clear c4
    by_cases c5 : 0 ≤ a1
    · rw [if_pos c5] at H
      have c5b0 : decide (0 ≤ a1) = true := decide_eq_true c5
      clear c5
      by_cases c6 : a2 < (((rd_T31 l0 a1).f1).length : Int)
      · rw [if_pos c6] at H
        have c6b0 : decide (a2 < (((rd_T31 l0 a1).f1).length : Int)) = true := decide_eq_true c6
        clear c6
        by_cases c7 : 0 ≤ a2
        · rw [if_pos c7] at H
          have c7b0 : decide (0 ≤ a2) = true := decide_eq_true c7
          clear c7
          by_cases c8 : ((rd_T38 ((rd_T31 l0 a1).f1) a2).f0) = 10
          · rw [if_pos c8] at H
            have c8b0 : (((rd_T38 ((rd_T31 l0 a1).f1) a2).f0) == 10) = true := beq_iff_eq.mpr c8
            have c8b1 : (((rd_T38 ((rd_T31 l0 a1).f1) a2).f0) != 10) = false := bne_eq_false_iff_eq.mpr c8
            clear c8
            obtain rfl := Option.some.inj H
            have p149 : 0 ≤ (a1 : Int) := of_decide_eq_true (by first | (with_reducible assumption) | assumption)
            have q149 : a1 < (l0.length : Int) := of_decide_eq_true (by first | (with_reducible assumption) | assumption)
            obtain ⟨ad149, A149_1, c149_1, e149, hx149_0, hx149_1, hl149_1, hi149_1⟩ := at_T31 HR0.out a1 p149 q149
            cases e149
            have HR149_1 := Aside0.mk hi149_1
            have HC149_1 := Aside0.mk hl149_1
            clear hi149_1 hl149_1
            replace p149 := eq_true p149
            replace q149 := eq_true q149
            have p150 : 0 ≤ (a1 : Int) := of_decide_eq_true (by first | (with_reducible assumption) | assumption)
            have q150 : a1 < (l0.length : Int) := of_decide_eq_true (by first | (with_reducible assumption) | assumption)
            obtain ⟨ad150, A150_1, c150_1, e150, hx150_0, hx150_1, hl150_1, hi150_1⟩ := at_T31 HR0.out a1 p150 q150
            obtain rfl : ad149 = ad150 := (by injection e150)
            have HR150_1 := Aside0.mk hi150_1
            have HC150_1 := Aside0.mk hl150_1
            clear hi150_1 hl150_1
            replace p150 := eq_true p150
            replace q150 := eq_true q150
            have ea_ := Option.some.inj (hx149_1.symm.trans hx150_1)
            injection ea_ with ea_ en_ ec_
            subst ea_
            subst ec_
            clear en_
            have p151 : 0 ≤ (a2 : Int) := of_decide_eq_true (by first | (with_reducible assumption) | assumption)
            have q151 : a2 < (((rd_T31 l0 a1).f1).length : Int) := of_decide_eq_true (by first | (with_reducible assumption) | assumption)
            obtain ⟨ad151, e151, hx151_0, hx151_1, hx151_2, hx151_3⟩ := at_T38 HR150_1.out a2 p151 q151
            cases e151
            replace p151 := eq_true p151
            replace q151 := eq_true q151
            have p152 : 0 ≤ (a1 : Int) := of_decide_eq_true (by first | (with_reducible assumption) | assumption)
            have q152 : a1 < (l0.length : Int) := of_decide_eq_true (by first | (with_reducible assumption) | assumption)
            obtain ⟨ad152, A152_1, c152_1, e152, hx152_0, hx152_1, hl152_1, hi152_1⟩ := at_T31 HR0.out a1 p152 q152
            obtain rfl : ad149 = ad152 := (by injection e152)
            have HR152_1 := Aside0.mk hi152_1
            have HC152_1 := Aside0.mk hl152_1
            clear hi152_1 hl152_1
            replace p152 := eq_true p152
            replace q152 := eq_true q152
            have ea_ := Option.some.inj (hx149_1.symm.trans hx152_1)
            injection ea_ with ea_ en_ ec_
            subst ea_
            subst ec_
            clear en_
            have p153 : 0 ≤ (a2 : Int) := of_decide_eq_true (by first | (with_reducible assumption) | assumption)
            have q153 : a2 < (((rd_T31 l0 a1).f1).length : Int) := of_decide_eq_true (by first | (with_reducible assumption) | assumption)
            obtain ⟨ad153, e153, hx153_0, hx153_1, hx153_2, hx153_3⟩ := at_T38 HR152_1.out a2 p153 q153
            cases e153
            replace p153 := eq_true p153
            replace q153 := eq_true q153
            go_enter Tryd.func12, Tryd.ntmps12
            go_wp2
            go_ret
            exact ⟨by first | rfl | (simp; done) | (simp [*]; done), by repeat (first | exact Drawn0.refl _ | apply Drawn0.step)⟩
          · rw [if_neg c8] at H
            have c8b0 : (((rd_T38 ((rd_T31 l0 a1).f1) a2).f0) == 10) = false := beq_eq_false_iff_ne.mpr c8
            have c8b1 : (((rd_T38 ((rd_T31 l0 a1).f1) a2).f0) != 10) = true := bne_iff_ne.mpr c8
            obtain rfl := Option.some.inj H
            have p149 : 0 ≤ (a1 : Int) := of_decide_eq_true (by first | (with_reducible assumption) | assumption)
            have q149 : a1 < (l0.length : Int) := of_decide_eq_true (by first | (with_reducible assumption) | assumption)
            obtain ⟨ad149, A149_1, c149_1, e149, hx149_0, hx149_1, hl149_1, hi149_1⟩ := at_T31 HR0.out a1 p149 q149
            cases e149
            have HR149_1 := Aside0.mk hi149_1
            have HC149_1 := Aside0.mk hl149_1
            clear hi149_1 hl149_1
            replace p149 := eq_true p149
            replace q149 := eq_true q149
            have p150 : 0 ≤ (a1 : Int) := of_decide_eq_true (by first | (with_reducible assumption) | assumption)
            have q150 : a1 < (l0.length : Int) := of_decide_eq_true (by first | (with_reducible assumption) | assumption)
            obtain ⟨ad150, A150_1, c150_1, e150, hx150_0, hx150_1, hl150_1, hi150_1⟩ := at_T31 HR0.out a1 p150 q150
            obtain rfl : ad149 = ad150 := (by injection e150)
            have HR150_1 := Aside0.mk hi150_1
            have HC150_1 := Aside0.mk hl150_1
            clear hi150_1 hl150_1
            replace p150 := eq_true p150
            replace q150 := eq_true q150
            have ea_ := Option.some.inj (hx149_1.symm.trans hx150_1)
            injection ea_ with ea_ en_ ec_
            subst ea_
            subst ec_
            clear en_
            have p151 : 0 ≤ (a2 : Int) := of_decide_eq_true (by first | (with_reducible assumption) | assumption)
            have q151 : a2 < (((rd_T31 l0 a1).f1).length : Int) := of_decide_eq_true (by first | (with_reducible assumption) | assumption)
            obtain ⟨ad151, e151, hx151_0, hx151_1, hx151_2, hx151_3⟩ := at_T38 HR150_1.out a2 p151 q151
            cases e151
            replace p151 := eq_true p151
            replace q151 := eq_true q151
            go_enter Tryd.func12, Tryd.ntmps12
            go_wp2
            go_ret
            exact ⟨by first | rfl | (simp; done) | (simp [*]; done), by repeat (first | exact Drawn0.refl _ | apply Drawn0.step)⟩
        · rw [if_neg c7] at H
          exact absurd H (by simp)
      · rw [if_neg c6] at H
        have c6b0 : decide (a2 < (((rd_T31 l0 a1).f1).length : Int)) = false := decide_eq_false c6
        clear c6
        obtain rfl := Option.some.inj H
        have p149 : 0 ≤ (a1 : Int) := of_decide_eq_true (by first | (with_reducible assumption) | assumption)
        have q149 : a1 < (l0.length : Int) := of_decide_eq_true (by first | (with_reducible assumption) | assumption)
        obtain ⟨ad149, A149_1, c149_1, e149, hx149_0, hx149_1, hl149_1, hi149_1⟩ := at_T31 HR0.out a1 p149 q149
        cases e149
        have HR149_1 := Aside0.mk hi149_1
        have HC149_1 := Aside0.mk hl149_1
        clear hi149_1 hl149_1
        replace p149 := eq_true p149
        replace q149 := eq_true q149
        go_enter Tryd.func12, Tryd.ntmps12
        go_wp2
        go_ret
        exact ⟨by first | rfl | (simp; done) | (simp [*]; done), by repeat (first | exact Drawn0.refl _ | apply Drawn0.step)⟩
    · rw [if_neg c5] at H
      exact absurd H (by simp)
  · rw [if_neg c4] at H
    have c4b0 : decide (a1 < (l0.length : Int)) = false := decide_eq_false c4
    clear c4
    obtain rfl := Option.some.inj H
    go_enter Tryd.func12, Tryd.ntmps12
    go_wp2
    go_ret
    exact ⟨by first | rfl | (simp; done) | (simp [*]; done), by repeat (first | exact Drawn0.refl _ | apply Drawn0.step)⟩

end Go.Proofs.YtkiamiphmndmcaaDoor.PCodes

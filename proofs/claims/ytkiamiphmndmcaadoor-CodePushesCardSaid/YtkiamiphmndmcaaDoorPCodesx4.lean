-- Written by xprint.py (a program of the prover's) over the kit's printer.
import Derived.Test.YtkiamiphmndmcaaDoorPCodesx0
import Derived.Test.YtkiamiphmndmcaaDoorPCodesx1
import Derived.Test.YtkiamiphmndmcaaDoorPCodesx2
import Derived.Test.YtkiamiphmndmcaaDoorPCodesx3
namespace Go.Proofs.YtkiamiphmndmcaaDoor.PCodes
open Go.RowKit Go.Proofs.YtkiamiphmndmcaaDoorW.PrintWords Go.Proofs.YtkiamiphmndmcaaDoorW.PrintLast Go.Proofs.YtkiamiphmndmcaaDoorW.PrintMore
attribute [local go_sem] max2_int min2_int max_two min_two max_three min_three max_four min_four   -- for this text's walks alone
set_option linter.unusedVariables false
set_option linter.unusedSimpArgs false

/-! ### code_Check: function 10 -/
open Go.Proofs.YtkiamiphmndmcaaDoor.Word in
theorem b_ToInt (w : Int) (h0 : 0 ≤ w) (h1 : w < 18446744073709551616) : word_ToInt.f w = some (toIntP w) := by
  unfold word_ToInt.f toIntP
  rw [u64_and7 w h0 h1]
  (repeat' split) <;> rfl
open Go.Proofs.YtkiamiphmndmcaaDoor.Word in
theorem b_To (k : Nat) (kd w : Int) (h0 : 0 ≤ w) (h1 : w < 18446744073709551616) : word_To.f (k + 1) kd w = some (toP kd w) := by
  have key : kd = 1 ∨ kd = 3 ∨ kd = 4 → word_To.j0 (k + 1) kd w true = some (toP kd w) := by
    intro hk
    simp only [word_To.j0, if_true]
    rw [u64_and7 w h0 h1, wrap_u64, Int.emod_eq_of_lt (a := kd) (by omega) (by omega)]
    unfold toP
    by_cases h2 : w % 8 = kd
    · by_cases h3 : w / 8 < 1099511627776
      · rw [if_pos h2, if_pos h3, if_pos ⟨hk, h2, h3⟩, wrap64_id (by omega) (by omega)]
      · rw [if_pos h2, if_neg h3, if_neg (fun h => h3 h.2.2)]
    · rw [if_neg h2, if_neg (fun h => h2 h.2.1)]
  unfold word_To.f
  by_cases h1 : kd = 1
  · rw [if_pos h1, show (kd == 1) = true by simpa using h1]; exact key (.inl h1)
  · by_cases h3 : kd = 3
    · rw [if_neg h1, if_pos h3, show (kd == 3) = true by simpa using h3]; exact key (.inr (.inl h3))
    · by_cases h4 : kd = 4
      · rw [if_neg h1, if_neg h3, show (kd == 4) = true by simpa using h4]; exact key (.inr (.inr h4))
      · rw [if_neg h1, if_neg h3, show (kd == 4) = false by simpa using h4]
        unfold toP
        rw [if_neg (fun h => by omega)]
        simp [word_To.j0]
open Go.Proofs.YtkiamiphmndmcaaDoor.Word in
theorem b_May (k : Nat) (w : Int) (h0 : 0 ≤ w) (h1 : w < 18446744073709551616) : word_May.f (k + 1) w = some (mayP w) := by
  unfold word_May.f mayP
  rw [u64_and7 w h0 h1, wrap64_id (by omega) (by omega), b_ToInt w h0 h1, b_To k _ w h0 h1]
  (repeat' split) <;> rfl
/-- which fields an instruction has; none: it is none -/
def hasP (op : Int) : Option Int := if op = 1 then some 4 else if op = 2 ∨ op = 4 ∨ op = 11 then some 3
  else if op = 3 ∨ op = 5 ∨ op = 6 ∨ op = 8 ∨ op = 9 ∨ op = 10 ∨ op = 12 ∨ op = 13 then some 1 else if op = 7 ∨ op = 14 ∨ op = 15 ∨ op = 16 then some 0 else none
theorem b_fields (op : Int) : code_fields.f 5 op = some ((hasP op).getD 0, (hasP op).isSome) := by
  by_cases h1 : op = 1
  · subst h1; rfl
  by_cases h2 : op = 2
  · subst h2; rfl
  by_cases h3 : op = 3
  · subst h3; rfl
  by_cases h4 : op = 4
  · subst h4; rfl
  by_cases h5 : op = 5
  · subst h5; rfl
  by_cases h6 : op = 6
  · subst h6; rfl
  by_cases h7 : op = 7
  · subst h7; rfl
  by_cases h8 : op = 8
  · subst h8; rfl
  by_cases h9 : op = 9
  · subst h9; rfl
  by_cases h10 : op = 10
  · subst h10; rfl
  by_cases h11 : op = 11
  · subst h11; rfl
  by_cases h12 : op = 12
  · subst h12; rfl
  by_cases h13 : op = 13
  · subst h13; rfl
  by_cases h14 : op = 14
  · subst h14; rfl
  by_cases h15 : op = 15
  · subst h15; rfl
  by_cases h16 : op = 16
  · subst h16; rfl
  unfold code_fields.f hasP
  simp [code_fields.j0, code_fields.j1, h1, h2, h3, h4, h5, h6, h7, h8, h9, h10, h11, h12, h13, h14, h15, h16]
open Go.Proofs.YtkiamiphmndmcaaDoor.Word in
/-- whether an instruction may be, of so many blocks, with so many words on the stack -/
def mayIns (bk : Int) (i : S38) (d : Int) : Bool := match hasP i.f0 with
  | none => false
  | some m => if i.f1 < 0 ∨ i.f2 < 0 ∨ (m % 2 = 0 ∧ i.f1 ≠ 0) ∨ (m / 2 % 2 = 0 ∧ i.f2 ≠ 0) ∨ (m / 4 = 0 ∧ i.f3 ≠ 0) then false
    else if i.f0 = 1 then mayP i.f3 && !(toP 1 i.f3).2 else if i.f0 = 10 then decide (i.f1 > 0) && decide (i.f1 < bk)
    else if i.f0 = 11 then (Lib2.tabK 29 i.f1).isSome && ((Lib2.tabK 29 i.f1).getD 0 == i.f2) else if i.f0 = 13 then d == i.f1 else if i.f0 = 15 ∨ i.f0 = 16 then d == 0 else true
theorem hasP_cases {op m : Int} (h : hasP op = some m) : m = 4 ∨ m = 3 ∨ m = 1 ∨ m = 0 := by
  unfold hasP at h
  repeat' split at h
  all_goals (simp at h; try omega)
theorem may_none (bk : Int) (mv : Value) (i : S38) (d : Int) (w : World) (hm : hasP i.f0 = none) :
    Calls Tryd.prog 17 #[.agg #[.int .i64 bk, mv], .agg #[.int .u8 i.f0, .int .i64 i.f1, .int .i64 i.f2, .int .u64 i.f3], .int .i64 d] w fun e w' => e = .returned (.bool (mayIns bk i d)) ∧ Below w.heap.size w w' := by
  have FC := fun w => code_fields.calls 5 i.f0 _ _ w (b_fields i.f0)
  have hv : mayIns bk i d = false := by unfold mayIns; rw [hm]
  rw [hm] at FC
  rw [hv]
  simp only [Option.getD_none, Option.isSome_none] at FC
  clear hm hv
  obtain ⟨f0, f1, f2, f3⟩ := i
  go_enter Tryd.func17, Tryd.ntmps17
  go_wp2_with (go_at_call 23; refine (FC _).mono ?_; rintro e w8 ⟨rfl, ⟨⟨n8, rfl⟩⟩⟩)
  go_ret
  exact ⟨rfl, ((((Heap.Chg.refl [] w).alloc _).alloc _).draw _).below⟩
/-- what is wrong with the fields of an instruction of mask m -/
def badP (m f1 f2 f3 : Int) : Prop := f1 < 0 ∨ f2 < 0 ∨ (m % 2 = 0 ∧ f1 ≠ 0) ∨ (m / 2 % 2 = 0 ∧ f2 ≠ 0) ∨ (m / 4 = 0 ∧ f3 ≠ 0)
instance (m f1 f2 f3 : Int) : Decidable (badP m f1 f2 f3) := by unfold badP; infer_instance
set_option maxHeartbeats 2000000 in
theorem may_bad (bk : Int) (mv : Value) (f0 f1 f2 f3 m d : Int) (w : World) (hm : hasP f0 = some m) (hb : badP m f1 f2 f3) :
    Calls Tryd.prog 17 #[.agg #[.int .i64 bk, mv], .agg #[.int .u8 f0, .int .i64 f1, .int .i64 f2, .int .u64 f3], .int .i64 d] w fun e w' => e = .returned (.bool false) ∧ Below w.heap.size w w' := by
  have FC := fun w => code_fields.calls 5 f0 _ _ w (b_fields f0)
  rw [hm] at FC
  simp only [Option.getD_some, Option.isSome_some] at FC
  have hc := hasP_cases hm
  clear hm
  unfold badP at hb
  by_cases h1 : f1 < 0
  · have t1 : decide (f1 < 0) = true := by simpa using h1
    clear hb h1 hc
    go_enter Tryd.func17, Tryd.ntmps17
    go_wp2_with (go_at_call 23; refine (FC _).mono ?_; rintro e w8 ⟨rfl, ⟨⟨n8, rfl⟩⟩⟩)
    go_ret
    exact ⟨rfl, ((((Heap.Chg.refl [] w).alloc _).alloc _).draw _).below⟩
  have t1 : decide (f1 < 0) = false := by simpa using h1
  by_cases h2 : f2 < 0
  · have t2 : decide (f2 < 0) = true := by simpa using h2
    clear hb h1 h2 hc
    go_enter Tryd.func17, Tryd.ntmps17
    go_wp2_with (go_at_call 23; refine (FC _).mono ?_; rintro e w8 ⟨rfl, ⟨⟨n8, rfl⟩⟩⟩)
    go_ret
    exact ⟨rfl, ((((Heap.Chg.refl [] w).alloc _).alloc _).draw _).below⟩
  have t2 : decide (f2 < 0) = false := by simpa using h2
  rcases hc with rfl | rfl | rfl | rfl
  · have z1 : Go.bits .and .i64 4 1 = 0 := by decide
    have z2 : Go.bits .and .i64 4 2 = 0 := by decide
    have z4 : Go.bits .and .i64 4 4 = 4 := by decide
    by_cases gf1 : f1 = 0
    · have ef1 : (f1 != 0) = false := by simp [gf1]
      by_cases gf2 : f2 = 0
      · have ef2 : (f2 != 0) = false := by simp [gf2]
        omega
      have ef2 : (f2 != 0) = true := by simpa using gf2
      clear hb h1 h2 gf1 gf2
      go_enter Tryd.func17, Tryd.ntmps17
      go_wp2_with (go_at_call 23; refine (FC _).mono ?_; rintro e w8 ⟨rfl, ⟨⟨n8, rfl⟩⟩⟩)
      go_ret
      exact ⟨rfl, ((((Heap.Chg.refl [] w).alloc _).alloc _).draw _).below⟩
    have ef1 : (f1 != 0) = true := by simpa using gf1
    clear hb h1 h2 gf1
    go_enter Tryd.func17, Tryd.ntmps17
    go_wp2_with (go_at_call 23; refine (FC _).mono ?_; rintro e w8 ⟨rfl, ⟨⟨n8, rfl⟩⟩⟩)
    go_ret
    exact ⟨rfl, ((((Heap.Chg.refl [] w).alloc _).alloc _).draw _).below⟩
  · have z1 : Go.bits .and .i64 3 1 = 1 := by decide
    have z2 : Go.bits .and .i64 3 2 = 2 := by decide
    have z4 : Go.bits .and .i64 3 4 = 0 := by decide
    by_cases gf3 : f3 = 0
    · have ef3 : (f3 != 0) = false := by simp [gf3]
      omega
    have ef3 : (f3 != 0) = true := by simpa using gf3
    clear hb h1 h2 gf3
    go_enter Tryd.func17, Tryd.ntmps17
    go_wp2_with (go_at_call 23; refine (FC _).mono ?_; rintro e w8 ⟨rfl, ⟨⟨n8, rfl⟩⟩⟩)
    go_ret
    exact ⟨rfl, ((((Heap.Chg.refl [] w).alloc _).alloc _).draw _).below⟩
  · have z1 : Go.bits .and .i64 1 1 = 1 := by decide
    have z2 : Go.bits .and .i64 1 2 = 0 := by decide
    have z4 : Go.bits .and .i64 1 4 = 0 := by decide
    by_cases gf2 : f2 = 0
    · have ef2 : (f2 != 0) = false := by simp [gf2]
      by_cases gf3 : f3 = 0
      · have ef3 : (f3 != 0) = false := by simp [gf3]
        omega
      have ef3 : (f3 != 0) = true := by simpa using gf3
      clear hb h1 h2 gf2 gf3
      go_enter Tryd.func17, Tryd.ntmps17
      go_wp2_with (go_at_call 23; refine (FC _).mono ?_; rintro e w8 ⟨rfl, ⟨⟨n8, rfl⟩⟩⟩)
      go_ret
      exact ⟨rfl, ((((Heap.Chg.refl [] w).alloc _).alloc _).draw _).below⟩
    have ef2 : (f2 != 0) = true := by simpa using gf2
    clear hb h1 h2 gf2
    go_enter Tryd.func17, Tryd.ntmps17
    go_wp2_with (go_at_call 23; refine (FC _).mono ?_; rintro e w8 ⟨rfl, ⟨⟨n8, rfl⟩⟩⟩)
    go_ret
    exact ⟨rfl, ((((Heap.Chg.refl [] w).alloc _).alloc _).draw _).below⟩
  · have z1 : Go.bits .and .i64 0 1 = 0 := by decide
    have z2 : Go.bits .and .i64 0 2 = 0 := by decide
    have z4 : Go.bits .and .i64 0 4 = 0 := by decide
    by_cases gf1 : f1 = 0
    · have ef1 : (f1 != 0) = false := by simp [gf1]
      by_cases gf2 : f2 = 0
      · have ef2 : (f2 != 0) = false := by simp [gf2]
        by_cases gf3 : f3 = 0
        · have ef3 : (f3 != 0) = false := by simp [gf3]
          omega
        have ef3 : (f3 != 0) = true := by simpa using gf3
        clear hb h1 h2 gf1 gf2 gf3
        go_enter Tryd.func17, Tryd.ntmps17
        go_wp2_with (go_at_call 23; refine (FC _).mono ?_; rintro e w8 ⟨rfl, ⟨⟨n8, rfl⟩⟩⟩)
        go_ret
        exact ⟨rfl, ((((Heap.Chg.refl [] w).alloc _).alloc _).draw _).below⟩
      have ef2 : (f2 != 0) = true := by simpa using gf2
      clear hb h1 h2 gf1 gf2
      go_enter Tryd.func17, Tryd.ntmps17
      go_wp2_with (go_at_call 23; refine (FC _).mono ?_; rintro e w8 ⟨rfl, ⟨⟨n8, rfl⟩⟩⟩)
      go_ret
      exact ⟨rfl, ((((Heap.Chg.refl [] w).alloc _).alloc _).draw _).below⟩
    have ef1 : (f1 != 0) = true := by simpa using gf1
    clear hb h1 h2 gf1
    go_enter Tryd.func17, Tryd.ntmps17
    go_wp2_with (go_at_call 23; refine (FC _).mono ?_; rintro e w8 ⟨rfl, ⟨⟨n8, rfl⟩⟩⟩)
    go_ret
    exact ⟨rfl, ((((Heap.Chg.refl [] w).alloc _).alloc _).draw _).below⟩
-- op by op
set_option maxHeartbeats 2000000 in
theorem may_op1 (bk : Int) (mv : Value) (f1 f2 f3 d : Int) (w : World) (h0 : 0 ≤ f3) (h8 : f3 < 18446744073709551616) (hb : ¬ badP 4 f1 f2 f3) :
    Calls Tryd.prog 17 #[.agg #[.int .i64 bk, mv], .agg #[.int .u8 1, .int .i64 f1, .int .i64 f2, .int .u64 f3], .int .i64 d] w fun e w' => e = .returned (.bool (Go.Proofs.YtkiamiphmndmcaaDoor.Word.mayP f3 && !(Go.Proofs.YtkiamiphmndmcaaDoor.Word.toP 1 f3).2)) ∧ Below w.heap.size w w' := by
  have FC := fun w => code_fields.calls 5 1 _ _ w (b_fields 1)
  rw [show hasP 1 = some 4 from rfl] at FC
  simp only [Option.getD_some, Option.isSome_some] at FC
  unfold badP at hb
  have t1 : decide (f1 < 0) = false := by simp; omega
  have t2 : decide (f2 < 0) = false := by simp; omega
  have z1 : Go.bits .and .i64 4 1 = 0 := by decide
  have z2 : Go.bits .and .i64 4 2 = 0 := by decide
  have z4 : Go.bits .and .i64 4 4 = 4 := by decide
  have e1 : (f1 != 0) = false := by simp; omega
  have e2 : (f2 != 0) = false := by simp; omega
  clear hb
  have TO := fun w => word_To.calls 5 1 f3 (Go.Proofs.YtkiamiphmndmcaaDoor.Word.toP 1 f3).1 (Go.Proofs.YtkiamiphmndmcaaDoor.Word.toP 1 f3).2 w (b_To 4 1 f3 h0 h8)
  have MY := fun w => word_May.calls 5 f3 _ w (b_May 4 f3 h0 h8)
  generalize Go.Proofs.YtkiamiphmndmcaaDoor.Word.toP 1 f3 = tp at *
  obtain ⟨tn, tb⟩ := tp
  simp only at TO
  cases hm : Go.Proofs.YtkiamiphmndmcaaDoor.Word.mayP f3 <;> rw [hm] at MY <;> clear hm h0 h8 <;> simp only [Bool.false_and, Bool.true_and]
  all_goals
    go_enter Tryd.func17, Tryd.ntmps17
    go_wp2_with (first | (go_at_call 23; refine (FC _).mono ?_; rintro e w8 ⟨rfl, ⟨⟨n8, rfl⟩⟩⟩) | (go_at_call 24; refine (TO _).mono ?_; rintro e w9 ⟨rfl, ⟨⟨n9, rfl⟩⟩⟩) | (go_at_call 25; refine (MY _).mono ?_; rintro e w10 ⟨rfl, ⟨⟨n10, rfl⟩⟩⟩))
    go_ret
    exact ⟨rfl, ((((Heap.Chg.refl [] w).alloc _).alloc _).draw _).below⟩
set_option maxHeartbeats 2000000 in
theorem may_op2 (bk : Int) (mv : Value) (f1 f2 f3 d : Int) (w : World) (hb : ¬ badP 3 f1 f2 f3) :
    Calls Tryd.prog 17 #[.agg #[.int .i64 bk, mv], .agg #[.int .u8 2, .int .i64 f1, .int .i64 f2, .int .u64 f3], .int .i64 d] w fun e w' => e = .returned (.bool (true)) ∧ Below w.heap.size w w' := by
  have FC := fun w => code_fields.calls 5 2 _ _ w (b_fields 2)
  rw [show hasP 2 = some 3 from rfl] at FC
  simp only [Option.getD_some, Option.isSome_some] at FC
  unfold badP at hb
  have t1 : decide (f1 < 0) = false := by simp; omega
  have t2 : decide (f2 < 0) = false := by simp; omega
  have z1 : Go.bits .and .i64 3 1 = 1 := by decide
  have z2 : Go.bits .and .i64 3 2 = 2 := by decide
  have z4 : Go.bits .and .i64 3 4 = 0 := by decide
  have e3 : (f3 != 0) = false := by simp; omega
  clear hb
  all_goals
    go_enter Tryd.func17, Tryd.ntmps17
    go_wp2_with (go_at_call 23; refine (FC _).mono ?_; rintro e w8 ⟨rfl, ⟨⟨n8, rfl⟩⟩⟩)
    go_ret
    exact ⟨rfl, ((((Heap.Chg.refl [] w).alloc _).alloc _).draw _).below⟩
set_option maxHeartbeats 2000000 in
theorem may_op3 (bk : Int) (mv : Value) (f1 f2 f3 d : Int) (w : World) (hb : ¬ badP 1 f1 f2 f3) :
    Calls Tryd.prog 17 #[.agg #[.int .i64 bk, mv], .agg #[.int .u8 3, .int .i64 f1, .int .i64 f2, .int .u64 f3], .int .i64 d] w fun e w' => e = .returned (.bool (true)) ∧ Below w.heap.size w w' := by
  have FC := fun w => code_fields.calls 5 3 _ _ w (b_fields 3)
  rw [show hasP 3 = some 1 from rfl] at FC
  simp only [Option.getD_some, Option.isSome_some] at FC
  unfold badP at hb
  have t1 : decide (f1 < 0) = false := by simp; omega
  have t2 : decide (f2 < 0) = false := by simp; omega
  have z1 : Go.bits .and .i64 1 1 = 1 := by decide
  have z2 : Go.bits .and .i64 1 2 = 0 := by decide
  have z4 : Go.bits .and .i64 1 4 = 0 := by decide
  have e2 : (f2 != 0) = false := by simp; omega
  have e3 : (f3 != 0) = false := by simp; omega
  clear hb
  all_goals
    go_enter Tryd.func17, Tryd.ntmps17
    go_wp2_with (go_at_call 23; refine (FC _).mono ?_; rintro e w8 ⟨rfl, ⟨⟨n8, rfl⟩⟩⟩)
    go_ret
    exact ⟨rfl, ((((Heap.Chg.refl [] w).alloc _).alloc _).draw _).below⟩
set_option maxHeartbeats 2000000 in
theorem may_op4 (bk : Int) (mv : Value) (f1 f2 f3 d : Int) (w : World) (hb : ¬ badP 3 f1 f2 f3) :
    Calls Tryd.prog 17 #[.agg #[.int .i64 bk, mv], .agg #[.int .u8 4, .int .i64 f1, .int .i64 f2, .int .u64 f3], .int .i64 d] w fun e w' => e = .returned (.bool (true)) ∧ Below w.heap.size w w' := by
  have FC := fun w => code_fields.calls 5 4 _ _ w (b_fields 4)
  rw [show hasP 4 = some 3 from rfl] at FC
  simp only [Option.getD_some, Option.isSome_some] at FC
  unfold badP at hb
  have t1 : decide (f1 < 0) = false := by simp; omega
  have t2 : decide (f2 < 0) = false := by simp; omega
  have z1 : Go.bits .and .i64 3 1 = 1 := by decide
  have z2 : Go.bits .and .i64 3 2 = 2 := by decide
  have z4 : Go.bits .and .i64 3 4 = 0 := by decide
  have e3 : (f3 != 0) = false := by simp; omega
  clear hb
  all_goals
    go_enter Tryd.func17, Tryd.ntmps17
    go_wp2_with (go_at_call 23; refine (FC _).mono ?_; rintro e w8 ⟨rfl, ⟨⟨n8, rfl⟩⟩⟩)
    go_ret
    exact ⟨rfl, ((((Heap.Chg.refl [] w).alloc _).alloc _).draw _).below⟩
set_option maxHeartbeats 2000000 in
theorem may_op5 (bk : Int) (mv : Value) (f1 f2 f3 d : Int) (w : World) (hb : ¬ badP 1 f1 f2 f3) :
    Calls Tryd.prog 17 #[.agg #[.int .i64 bk, mv], .agg #[.int .u8 5, .int .i64 f1, .int .i64 f2, .int .u64 f3], .int .i64 d] w fun e w' => e = .returned (.bool (true)) ∧ Below w.heap.size w w' := by
  have FC := fun w => code_fields.calls 5 5 _ _ w (b_fields 5)
  rw [show hasP 5 = some 1 from rfl] at FC
  simp only [Option.getD_some, Option.isSome_some] at FC
  unfold badP at hb
  have t1 : decide (f1 < 0) = false := by simp; omega
  have t2 : decide (f2 < 0) = false := by simp; omega
  have z1 : Go.bits .and .i64 1 1 = 1 := by decide
  have z2 : Go.bits .and .i64 1 2 = 0 := by decide
  have z4 : Go.bits .and .i64 1 4 = 0 := by decide
  have e2 : (f2 != 0) = false := by simp; omega
  have e3 : (f3 != 0) = false := by simp; omega
  clear hb
  all_goals
    go_enter Tryd.func17, Tryd.ntmps17
    go_wp2_with (go_at_call 23; refine (FC _).mono ?_; rintro e w8 ⟨rfl, ⟨⟨n8, rfl⟩⟩⟩)
    go_ret
    exact ⟨rfl, ((((Heap.Chg.refl [] w).alloc _).alloc _).draw _).below⟩
set_option maxHeartbeats 2000000 in
theorem may_op6 (bk : Int) (mv : Value) (f1 f2 f3 d : Int) (w : World) (hb : ¬ badP 1 f1 f2 f3) :
    Calls Tryd.prog 17 #[.agg #[.int .i64 bk, mv], .agg #[.int .u8 6, .int .i64 f1, .int .i64 f2, .int .u64 f3], .int .i64 d] w fun e w' => e = .returned (.bool (true)) ∧ Below w.heap.size w w' := by
  have FC := fun w => code_fields.calls 5 6 _ _ w (b_fields 6)
  rw [show hasP 6 = some 1 from rfl] at FC
  simp only [Option.getD_some, Option.isSome_some] at FC
  unfold badP at hb
  have t1 : decide (f1 < 0) = false := by simp; omega
  have t2 : decide (f2 < 0) = false := by simp; omega
  have z1 : Go.bits .and .i64 1 1 = 1 := by decide
  have z2 : Go.bits .and .i64 1 2 = 0 := by decide
  have z4 : Go.bits .and .i64 1 4 = 0 := by decide
  have e2 : (f2 != 0) = false := by simp; omega
  have e3 : (f3 != 0) = false := by simp; omega
  clear hb
  all_goals
    go_enter Tryd.func17, Tryd.ntmps17
    go_wp2_with (go_at_call 23; refine (FC _).mono ?_; rintro e w8 ⟨rfl, ⟨⟨n8, rfl⟩⟩⟩)
    go_ret
    exact ⟨rfl, ((((Heap.Chg.refl [] w).alloc _).alloc _).draw _).below⟩
set_option maxHeartbeats 2000000 in
theorem may_op7 (bk : Int) (mv : Value) (f1 f2 f3 d : Int) (w : World) (hb : ¬ badP 0 f1 f2 f3) :
    Calls Tryd.prog 17 #[.agg #[.int .i64 bk, mv], .agg #[.int .u8 7, .int .i64 f1, .int .i64 f2, .int .u64 f3], .int .i64 d] w fun e w' => e = .returned (.bool (true)) ∧ Below w.heap.size w w' := by
  have FC := fun w => code_fields.calls 5 7 _ _ w (b_fields 7)
  rw [show hasP 7 = some 0 from rfl] at FC
  simp only [Option.getD_some, Option.isSome_some] at FC
  unfold badP at hb
  have t1 : decide (f1 < 0) = false := by simp; omega
  have t2 : decide (f2 < 0) = false := by simp; omega
  have z1 : Go.bits .and .i64 0 1 = 0 := by decide
  have z2 : Go.bits .and .i64 0 2 = 0 := by decide
  have z4 : Go.bits .and .i64 0 4 = 0 := by decide
  have e1 : (f1 != 0) = false := by simp; omega
  have e2 : (f2 != 0) = false := by simp; omega
  have e3 : (f3 != 0) = false := by simp; omega
  clear hb
  all_goals
    go_enter Tryd.func17, Tryd.ntmps17
    go_wp2_with (go_at_call 23; refine (FC _).mono ?_; rintro e w8 ⟨rfl, ⟨⟨n8, rfl⟩⟩⟩)
    go_ret
    exact ⟨rfl, ((((Heap.Chg.refl [] w).alloc _).alloc _).draw _).below⟩
set_option maxHeartbeats 2000000 in
theorem may_op8 (bk : Int) (mv : Value) (f1 f2 f3 d : Int) (w : World) (hb : ¬ badP 1 f1 f2 f3) :
    Calls Tryd.prog 17 #[.agg #[.int .i64 bk, mv], .agg #[.int .u8 8, .int .i64 f1, .int .i64 f2, .int .u64 f3], .int .i64 d] w fun e w' => e = .returned (.bool (true)) ∧ Below w.heap.size w w' := by
  have FC := fun w => code_fields.calls 5 8 _ _ w (b_fields 8)
  rw [show hasP 8 = some 1 from rfl] at FC
  simp only [Option.getD_some, Option.isSome_some] at FC
  unfold badP at hb
  have t1 : decide (f1 < 0) = false := by simp; omega
  have t2 : decide (f2 < 0) = false := by simp; omega
  have z1 : Go.bits .and .i64 1 1 = 1 := by decide
  have z2 : Go.bits .and .i64 1 2 = 0 := by decide
  have z4 : Go.bits .and .i64 1 4 = 0 := by decide
  have e2 : (f2 != 0) = false := by simp; omega
  have e3 : (f3 != 0) = false := by simp; omega
  clear hb
  all_goals
    go_enter Tryd.func17, Tryd.ntmps17
    go_wp2_with (go_at_call 23; refine (FC _).mono ?_; rintro e w8 ⟨rfl, ⟨⟨n8, rfl⟩⟩⟩)
    go_ret
    exact ⟨rfl, ((((Heap.Chg.refl [] w).alloc _).alloc _).draw _).below⟩
set_option maxHeartbeats 2000000 in
theorem may_op9 (bk : Int) (mv : Value) (f1 f2 f3 d : Int) (w : World) (hb : ¬ badP 1 f1 f2 f3) :
    Calls Tryd.prog 17 #[.agg #[.int .i64 bk, mv], .agg #[.int .u8 9, .int .i64 f1, .int .i64 f2, .int .u64 f3], .int .i64 d] w fun e w' => e = .returned (.bool (true)) ∧ Below w.heap.size w w' := by
  have FC := fun w => code_fields.calls 5 9 _ _ w (b_fields 9)
  rw [show hasP 9 = some 1 from rfl] at FC
  simp only [Option.getD_some, Option.isSome_some] at FC
  unfold badP at hb
  have t1 : decide (f1 < 0) = false := by simp; omega
  have t2 : decide (f2 < 0) = false := by simp; omega
  have z1 : Go.bits .and .i64 1 1 = 1 := by decide
  have z2 : Go.bits .and .i64 1 2 = 0 := by decide
  have z4 : Go.bits .and .i64 1 4 = 0 := by decide
  have e2 : (f2 != 0) = false := by simp; omega
  have e3 : (f3 != 0) = false := by simp; omega
  clear hb
  all_goals
    go_enter Tryd.func17, Tryd.ntmps17
    go_wp2_with (go_at_call 23; refine (FC _).mono ?_; rintro e w8 ⟨rfl, ⟨⟨n8, rfl⟩⟩⟩)
    go_ret
    exact ⟨rfl, ((((Heap.Chg.refl [] w).alloc _).alloc _).draw _).below⟩
set_option maxHeartbeats 2000000 in
theorem may_op10 (bk : Int) (mv : Value) (f1 f2 f3 d : Int) (w : World) (hb : ¬ badP 1 f1 f2 f3) :
    Calls Tryd.prog 17 #[.agg #[.int .i64 bk, mv], .agg #[.int .u8 10, .int .i64 f1, .int .i64 f2, .int .u64 f3], .int .i64 d] w fun e w' => e = .returned (.bool (decide (f1 > 0) && decide (f1 < bk))) ∧ Below w.heap.size w w' := by
  have FC := fun w => code_fields.calls 5 10 _ _ w (b_fields 10)
  rw [show hasP 10 = some 1 from rfl] at FC
  simp only [Option.getD_some, Option.isSome_some] at FC
  unfold badP at hb
  have t1 : decide (f1 < 0) = false := by simp; omega
  have t2 : decide (f2 < 0) = false := by simp; omega
  have z1 : Go.bits .and .i64 1 1 = 1 := by decide
  have z2 : Go.bits .and .i64 1 2 = 0 := by decide
  have z4 : Go.bits .and .i64 1 4 = 0 := by decide
  have e2 : (f2 != 0) = false := by simp; omega
  have e3 : (f3 != 0) = false := by simp; omega
  clear hb
  cases t5 : decide (f1 > 0) <;> simp only [Bool.false_and, Bool.true_and]
  all_goals
    go_enter Tryd.func17, Tryd.ntmps17
    go_wp2_with (go_at_call 23; refine (FC _).mono ?_; rintro e w8 ⟨rfl, ⟨⟨n8, rfl⟩⟩⟩)
    go_ret
    exact ⟨rfl, ((((Heap.Chg.refl [] w).alloc _).alloc _).draw _).below⟩
set_option maxHeartbeats 2000000 in
theorem may_op11 (bk : Int) (f1 f2 f3 d : Int) (w : World) (mb n : Nat) (D : DataW Unit) (hown : w.ownsMap Tryd.prog 3 (plainElem Tryd.prog 3) mb n D) (hT : Lib2.PrimTab D 29) (hw1 : (Lit.int .i64 f1).wf = true) (hb : ¬ badP 3 f1 f2 f3) :
    Calls Tryd.prog 17 #[.agg #[.int .i64 bk, (.map (some mb))], .agg #[.int .u8 11, .int .i64 f1, .int .i64 f2, .int .u64 f3], .int .i64 d] w fun e w' => e = .returned (.bool ((Lib2.tabK 29 f1).isSome && ((Lib2.tabK 29 f1).getD 0 == f2))) ∧ Below w.heap.size w w' := by
  have FC := fun w => code_fields.calls 5 11 _ _ w (b_fields 11)
  rw [show hasP 11 = some 3 from rfl] at FC
  simp only [Option.getD_some, Option.isSome_some] at FC
  unfold badP at hb
  have t1 : decide (f1 < 0) = false := by simp; omega
  have t2 : decide (f2 < 0) = false := by simp; omega
  have z1 : Go.bits .and .i64 3 1 = 1 := by decide
  have z2 : Go.bits .and .i64 3 2 = 2 := by decide
  have z4 : Go.bits .and .i64 3 4 = 0 := by decide
  have e3 : (f3 != 0) = false := by simp; omega
  clear hb
  have hrun := fun o1 o2 n => Lib2.lookI (w := ((w.alloc o1).alloc o2).drewN n) (mb := mb) (n := _) (D := D) ((hown.alloc o1).alloc o2) hT f1 hw1
  clear hown hT hw1
  generalize (Lib2.tabK 29 f1).getD 0 = gv at *
  cases hs : (Lib2.tabK 29 f1).isSome <;> rw [hs] at hrun <;> clear hs <;> simp only [Bool.false_and, Bool.true_and]
  all_goals
    go_enter Tryd.func17, Tryd.ntmps17
    go_wp2_with (go_at_call 23; refine (FC _).mono ?_; rintro e w8 ⟨rfl, ⟨⟨n8, rfl⟩⟩⟩)
    go_ret
    exact ⟨rfl, ((((Heap.Chg.refl [] w).alloc _).alloc _).draw _).below⟩
set_option maxHeartbeats 2000000 in
theorem may_op12 (bk : Int) (mv : Value) (f1 f2 f3 d : Int) (w : World) (hb : ¬ badP 1 f1 f2 f3) :
    Calls Tryd.prog 17 #[.agg #[.int .i64 bk, mv], .agg #[.int .u8 12, .int .i64 f1, .int .i64 f2, .int .u64 f3], .int .i64 d] w fun e w' => e = .returned (.bool (true)) ∧ Below w.heap.size w w' := by
  have FC := fun w => code_fields.calls 5 12 _ _ w (b_fields 12)
  rw [show hasP 12 = some 1 from rfl] at FC
  simp only [Option.getD_some, Option.isSome_some] at FC
  unfold badP at hb
  have t1 : decide (f1 < 0) = false := by simp; omega
  have t2 : decide (f2 < 0) = false := by simp; omega
  have z1 : Go.bits .and .i64 1 1 = 1 := by decide
  have z2 : Go.bits .and .i64 1 2 = 0 := by decide
  have z4 : Go.bits .and .i64 1 4 = 0 := by decide
  have e2 : (f2 != 0) = false := by simp; omega
  have e3 : (f3 != 0) = false := by simp; omega
  clear hb
  all_goals
    go_enter Tryd.func17, Tryd.ntmps17
    go_wp2_with (go_at_call 23; refine (FC _).mono ?_; rintro e w8 ⟨rfl, ⟨⟨n8, rfl⟩⟩⟩)
    go_ret
    exact ⟨rfl, ((((Heap.Chg.refl [] w).alloc _).alloc _).draw _).below⟩
set_option maxHeartbeats 2000000 in
theorem may_op13 (bk : Int) (mv : Value) (f1 f2 f3 d : Int) (w : World) (hb : ¬ badP 1 f1 f2 f3) :
    Calls Tryd.prog 17 #[.agg #[.int .i64 bk, mv], .agg #[.int .u8 13, .int .i64 f1, .int .i64 f2, .int .u64 f3], .int .i64 d] w fun e w' => e = .returned (.bool (d == f1)) ∧ Below w.heap.size w w' := by
  have FC := fun w => code_fields.calls 5 13 _ _ w (b_fields 13)
  rw [show hasP 13 = some 1 from rfl] at FC
  simp only [Option.getD_some, Option.isSome_some] at FC
  unfold badP at hb
  have t1 : decide (f1 < 0) = false := by simp; omega
  have t2 : decide (f2 < 0) = false := by simp; omega
  have z1 : Go.bits .and .i64 1 1 = 1 := by decide
  have z2 : Go.bits .and .i64 1 2 = 0 := by decide
  have z4 : Go.bits .and .i64 1 4 = 0 := by decide
  have e2 : (f2 != 0) = false := by simp; omega
  have e3 : (f3 != 0) = false := by simp; omega
  clear hb
  all_goals
    go_enter Tryd.func17, Tryd.ntmps17
    go_wp2_with (go_at_call 23; refine (FC _).mono ?_; rintro e w8 ⟨rfl, ⟨⟨n8, rfl⟩⟩⟩)
    go_ret
    exact ⟨rfl, ((((Heap.Chg.refl [] w).alloc _).alloc _).draw _).below⟩
set_option maxHeartbeats 2000000 in
theorem may_op14 (bk : Int) (mv : Value) (f1 f2 f3 d : Int) (w : World) (hb : ¬ badP 0 f1 f2 f3) :
    Calls Tryd.prog 17 #[.agg #[.int .i64 bk, mv], .agg #[.int .u8 14, .int .i64 f1, .int .i64 f2, .int .u64 f3], .int .i64 d] w fun e w' => e = .returned (.bool (true)) ∧ Below w.heap.size w w' := by
  have FC := fun w => code_fields.calls 5 14 _ _ w (b_fields 14)
  rw [show hasP 14 = some 0 from rfl] at FC
  simp only [Option.getD_some, Option.isSome_some] at FC
  unfold badP at hb
  have t1 : decide (f1 < 0) = false := by simp; omega
  have t2 : decide (f2 < 0) = false := by simp; omega
  have z1 : Go.bits .and .i64 0 1 = 0 := by decide
  have z2 : Go.bits .and .i64 0 2 = 0 := by decide
  have z4 : Go.bits .and .i64 0 4 = 0 := by decide
  have e1 : (f1 != 0) = false := by simp; omega
  have e2 : (f2 != 0) = false := by simp; omega
  have e3 : (f3 != 0) = false := by simp; omega
  clear hb
  all_goals
    go_enter Tryd.func17, Tryd.ntmps17
    go_wp2_with (go_at_call 23; refine (FC _).mono ?_; rintro e w8 ⟨rfl, ⟨⟨n8, rfl⟩⟩⟩)
    go_ret
    exact ⟨rfl, ((((Heap.Chg.refl [] w).alloc _).alloc _).draw _).below⟩
set_option maxHeartbeats 2000000 in
theorem may_op15 (bk : Int) (mv : Value) (f1 f2 f3 d : Int) (w : World) (hb : ¬ badP 0 f1 f2 f3) :
    Calls Tryd.prog 17 #[.agg #[.int .i64 bk, mv], .agg #[.int .u8 15, .int .i64 f1, .int .i64 f2, .int .u64 f3], .int .i64 d] w fun e w' => e = .returned (.bool (d == 0)) ∧ Below w.heap.size w w' := by
  have FC := fun w => code_fields.calls 5 15 _ _ w (b_fields 15)
  rw [show hasP 15 = some 0 from rfl] at FC
  simp only [Option.getD_some, Option.isSome_some] at FC
  unfold badP at hb
  have t1 : decide (f1 < 0) = false := by simp; omega
  have t2 : decide (f2 < 0) = false := by simp; omega
  have z1 : Go.bits .and .i64 0 1 = 0 := by decide
  have z2 : Go.bits .and .i64 0 2 = 0 := by decide
  have z4 : Go.bits .and .i64 0 4 = 0 := by decide
  have e1 : (f1 != 0) = false := by simp; omega
  have e2 : (f2 != 0) = false := by simp; omega
  have e3 : (f3 != 0) = false := by simp; omega
  clear hb
  all_goals
    go_enter Tryd.func17, Tryd.ntmps17
    go_wp2_with (go_at_call 23; refine (FC _).mono ?_; rintro e w8 ⟨rfl, ⟨⟨n8, rfl⟩⟩⟩)
    go_ret
    exact ⟨rfl, ((((Heap.Chg.refl [] w).alloc _).alloc _).draw _).below⟩
set_option maxHeartbeats 2000000 in
theorem may_op16 (bk : Int) (mv : Value) (f1 f2 f3 d : Int) (w : World) (hb : ¬ badP 0 f1 f2 f3) :
    Calls Tryd.prog 17 #[.agg #[.int .i64 bk, mv], .agg #[.int .u8 16, .int .i64 f1, .int .i64 f2, .int .u64 f3], .int .i64 d] w fun e w' => e = .returned (.bool (d == 0)) ∧ Below w.heap.size w w' := by
  have FC := fun w => code_fields.calls 5 16 _ _ w (b_fields 16)
  rw [show hasP 16 = some 0 from rfl] at FC
  simp only [Option.getD_some, Option.isSome_some] at FC
  unfold badP at hb
  have t1 : decide (f1 < 0) = false := by simp; omega
  have t2 : decide (f2 < 0) = false := by simp; omega
  have z1 : Go.bits .and .i64 0 1 = 0 := by decide
  have z2 : Go.bits .and .i64 0 2 = 0 := by decide
  have z4 : Go.bits .and .i64 0 4 = 0 := by decide
  have e1 : (f1 != 0) = false := by simp; omega
  have e2 : (f2 != 0) = false := by simp; omega
  have e3 : (f3 != 0) = false := by simp; omega
  clear hb
  all_goals
    go_enter Tryd.func17, Tryd.ntmps17
    go_wp2_with (go_at_call 23; refine (FC _).mono ?_; rintro e w8 ⟨rfl, ⟨⟨n8, rfl⟩⟩⟩)
    go_ret
    exact ⟨rfl, ((((Heap.Chg.refl [] w).alloc _).alloc _).draw _).below⟩
theorem hasP_ops {op m : Int} (h : hasP op = some m) : op = 1 ∨ op = 2 ∨ op = 3 ∨ op = 4 ∨ op = 5 ∨ op = 6 ∨ op = 7 ∨ op = 8 ∨ op = 9 ∨ op = 10 ∨ op = 11 ∨ op = 12 ∨ op = 13 ∨ op = 14 ∨ op = 15 ∨ op = 16 := by
  unfold hasP at h
  repeat' split at h
  all_goals first | omega | (simp at h)
theorem may_ok (bk m d : Int) (i : S38) (hm : hasP i.f0 = some m) (hb : ¬ badP m i.f1 i.f2 i.f3) : mayIns bk i d = (if i.f0 = 1 then Go.Proofs.YtkiamiphmndmcaaDoor.Word.mayP i.f3 && !(Go.Proofs.YtkiamiphmndmcaaDoor.Word.toP 1 i.f3).2 else if i.f0 = 10 then decide (i.f1 > 0) && decide (i.f1 < bk)
    else if i.f0 = 11 then (Lib2.tabK 29 i.f1).isSome && ((Lib2.tabK 29 i.f1).getD 0 == i.f2) else if i.f0 = 13 then d == i.f1 else if i.f0 = 15 ∨ i.f0 = 16 then d == 0 else true) := by
  unfold mayIns
  rw [hm]
  simp only
  unfold badP at hb
  rw [if_neg hb]
theorem may_calls (bk : Int) (mb n : Nat) (D : DataW Unit) (f0 f1 f2 f3 d : Int) (w : World) (hown : w.ownsMap Tryd.prog 3 (plainElem Tryd.prog 3) mb n D) (hT : Lib2.PrimTab D 29) (hw1 : (Lit.int .i64 f1).wf = true) (h0 : 0 ≤ f3) (h8 : f3 < 18446744073709551616) :
    Calls Tryd.prog 17 #[.agg #[.int .i64 bk, .map (some mb)], .agg #[.int .u8 f0, .int .i64 f1, .int .i64 f2, .int .u64 f3], .int .i64 d] w fun e w' => e = .returned (.bool (mayIns bk ⟨f0, f1, f2, f3⟩ d)) ∧ Below w.heap.size w w' := by
  cases hm : hasP f0 with
  | none => exact may_none bk _ ⟨f0, f1, f2, f3⟩ d w hm
  | some m =>
    by_cases hb : badP m f1 f2 f3
    · rw [show mayIns bk ⟨f0, f1, f2, f3⟩ d = false by unfold mayIns; simp only [hm]; unfold badP at hb; rw [if_pos hb]]
      exact may_bad bk _ f0 f1 f2 f3 m d w hm hb
    · rw [may_ok bk m d ⟨f0, f1, f2, f3⟩ hm hb]
      simp only
      rcases hasP_ops hm with rfl | rfl | rfl | rfl | rfl | rfl | rfl | rfl | rfl | rfl | rfl | rfl | rfl | rfl | rfl | rfl
      all_goals (cases hm)
      · exact may_op1 bk _ f1 f2 f3 d w h0 h8 hb
      · exact may_op2 bk _ f1 f2 f3 d w hb
      · exact may_op3 bk _ f1 f2 f3 d w hb
      · exact may_op4 bk _ f1 f2 f3 d w hb
      · exact may_op5 bk _ f1 f2 f3 d w hb
      · exact may_op6 bk _ f1 f2 f3 d w hb
      · exact may_op7 bk _ f1 f2 f3 d w hb
      · exact may_op8 bk _ f1 f2 f3 d w hb
      · exact may_op9 bk _ f1 f2 f3 d w hb
      · exact may_op10 bk _ f1 f2 f3 d w hb
      · exact may_op11 bk f1 f2 f3 d w mb n D hown hT hw1 hb
      · exact may_op12 bk _ f1 f2 f3 d w hb
      · exact may_op13 bk _ f1 f2 f3 d w hb
      · exact may_op14 bk _ f1 f2 f3 d w hb
      · exact may_op15 bk _ f1 f2 f3 d w hb
      · exact may_op16 bk _ f1 f2 f3 d w hb
/-- the first instruction that may not be, of those from place at on -/
def firstBad (bk : Int) : List (S38) → List Int → Nat → Option Nat
  | [], _, _ => none
  | i :: r, ds, at' => if mayIns bk i (ds.headD 0) then firstBad bk r ds.tail (at' + 1) else some at'
/-- what is wrong with a block, if something is: the place that is told -/
def blockBad (bk : Int) (n : Nat) (b : S31) : Option Nat := match code_Depth.f b.f0 b.f1 with
  | some (d, ok) => if ok = false ∨ b.f0 < 0 ∨ 100 < b.f0 ∨ (n = 0 ∧ b.f0 ≠ 0) ∨ d.contains (-1) = true then some 0 else firstBad bk b.f1 d 0
  | none => none
def chkRun (bk : Int) : List (S31) → Nat → Int × Int × Int
  | [], _ => (0, 0, 0)
  | b :: r, n => match blockBad bk n b with | some at' => ((n : Int), (at' : Int), 110) | none => chkRun bk r (n + 1)
def okBlock (b : S31) : Prop := b.f1.length ≤ 1000000 ∧ ∀ i ∈ b.f1, okIns i
instance (b : S31) : Decidable (okBlock b) := by unfold okBlock; infer_instance
def code_Check.f (l0 : List (S31)) : Option (Int × Int × Int) := if l0.length = 0 then some (0, 0, 1) else if ∀ b ∈ l0, okBlock b then some (chkRun l0.length l0 0) else none
theorem depSet_len {n a l : Int} : ∀ {ps d d' : List Int}, depSet n a l d ps = some d' → d'.length = d.length
  | [], d, d', h => by simp only [depSet] at h; cases h; rfl
  | p :: r, d, d', h => by
    simp only [depSet] at h
    split at h
    · cases h
    · rw [depSet_len h, List.length_set]
theorem depStep_len {L : List (S38)} {k : Nat} {i : S38} {d d' : List Int} (h : depStep L k i d = some d') : d'.length = d.length := by
  unfold depStep at h
  split at h
  · cases h; rfl
  · split at h
    · cases h
    · exact depSet_len h
theorem depRun_len {L : List (S38)} : ∀ {is : List (S38)} {k : Nat} {d d' : List Int}, depRun L k is d = some d' → d'.length = d.length
  | [], k, d, d', h => by simp only [depRun] at h; cases h; rfl
  | i :: r, k, d, d', h => by
    simp only [depRun] at h
    cases h1 : depStep L k i d with
    | none => rw [h1] at h; cases h
    | some d1 => rw [h1] at h; rw [depRun_len h, depStep_len h1]
theorem depth_some (b : S31) (hb : okBlock b) : ∃ d ok, code_Depth.f b.f0 b.f1 = some (d, ok) ∧ (ok = true → 0 < b.f1.length ∧ d.length = b.f1.length) := by
  unfold code_Depth.f
  by_cases h0 : b.f1.length = 0
  · rw [if_pos h0]; exact ⟨_, _, rfl, fun h => by cases h⟩
  · unfold okBlock at hb
    rw [if_neg h0, if_pos hb]
    cases hd : depOf b.f1 with
    | none => exact ⟨_, _, rfl, fun h => by cases h⟩
    | some d =>
      refine ⟨_, _, rfl, fun _ => ⟨by omega, ?_⟩⟩
      rw [depRun_len hd]; simp; omega
theorem kept_map {w w1 : World} {mb n : Nat} {D : DataW Unit} (h : w.ownsMap Tryd.prog 3 (plainElem Tryd.prog 3) mb n D) (hb : Below w.heap.size w w1) : w1.ownsMap Tryd.prog 3 (plainElem Tryd.prog 3) mb n D := h.kept (grown_of_below hb none) (by simp)
theorem okIns_wf {i : S38} (h : okIns i) : (Lit.int .i64 i.f1).wf = true := by
  unfold okIns at h
  have h1 : IntKind.i64.min = -9223372036854775808 := by decide
  have h2 : IntKind.i64.max = 9223372036854775807 := by decide
  simp only [Lit.wf, h1, h2, Bool.and_eq_true, decide_eq_true_eq]
  omega
theorem firstBad_cons (bk : Int) (i : S38) (r : List (S38)) (x : Int) (ds : List Int) (n : Nat) : firstBad bk (i :: r) (x :: ds) n = if mayIns bk i x = true then firstBad bk r ds (n + 1) else some n := rfl
set_option maxHeartbeats 4000000 in
set_option maxRecDepth 100000 in
theorem code_Check.calls (A0 : Option Addr) (c0 : Nat) (l0 : List (S31)) (r1 : Int) (r2 : Int) (r3 : Int) (w : World) (hr0 : Kd.C k31 w A0 l0.length l0) (hc0 : l0.length ≤ c0) (h : code_Check.f l0 = some (r1, r2, r3)) :
    Calls Tryd.prog 10 #[.slice A0 l0.length c0] w fun e w' => e = .returned (.tuple #[.int .i64 r1, .int .i64 r2, .int .i64 r3]) ∧ Below w.heap.size w w' := by
  unfold code_Check.f at h
  by_cases hn0 : l0.length = 0
  · rw [if_pos hn0] at h
    cases h
    have t1 : ((l0.length : Int) == 0) = true := by simp [hn0]
    clear hr0
    go_enter Tryd.func10, Tryd.ntmps10
    go_wp2_with fail
    go_ret3
    exact ⟨rfl, Below.refl _ _⟩
  rw [if_neg hn0] at h
  by_cases hok : ∀ b ∈ l0, okBlock b
  case neg => rw [if_neg hok] at h; cases h
  rw [if_pos hok] at h
  have t1 : ((l0.length : Int) == 0) = false := by simpa using hn0
  have hH := Lib.hid h
  have hmx := Kd.C_max hr0
  clear h
  go_enter Tryd.func10, Tryd.ntmps10
  go_wp2_with fail
  refine (Lib2.all_calls _).mono ?_
  rintro e w1 ⟨rfl, hb1, hc1⟩
  go_wp2_with fail
  refine (Lib2.prims_calls _ w1 hb1).mono ?_
  rintro e w2 ⟨mb, D, rfl, hmb, hown, hT, hc2⟩
  go_wp2_with fail
  obtain ⟨W3, hW3⟩ : ∃ W3, W3 = w2.alloc (.cells #[.int .i64 l0.length, .map (some mb)] 52) := ⟨_, rfl⟩
  have X3 : W3.heap[w2.heap.size]? = some (.cells #[.int .i64 l0.length, .map (some mb)] 52 (0, 0)) := by rw [hW3]; exact Heap.blk_new rfl
  have C3 : Heap.Chg [] w W3 := by rw [hW3]; exact ((hc1.same hc2).alloc _)
  have O3 : W3.ownsMap Tryd.prog 3 (plainElem (H := Unit) Tryd.prog 3) mb 29 D := by rw [hW3]; exact hown.alloc _
  rw [← hW3]
  clear hW3 hown hc1 hc2 hb1 hmb
  generalize w2.heap.size = px at *
  have HX3 := Lib.hid X3
  have HC3 := Lib.hid C3
  have HO3 := Lib.hid O3
  have HT := Lib.hid hT
  have HR0 := Lib.hid hr0
  have HOK := Lib.hid hok
  clear X3 C3 O3 hT hr0 hok
  go_loopw [22] (fun i wx => ∃ n : Nat, i = .int .i64 n ∧ n ≤ l0.length ∧ Hid (chkRun l0.length (l0.drop n) n = chkRun l0.length l0 0) ∧ Hid (Below W3.heap.size W3 wx)) (fun i _ => l0.length - (intOf i).toNat)
  case atStart => exact ⟨0, rfl, Nat.zero_le _, Lib.hid rfl, Lib.hid (Below.refl _ _)⟩
  case round =>
    obtain ⟨n, rfl, hn, hrun, hbel⟩ := hrel
    by_cases hlt : n < l0.length
    · obtain ⟨b, hbl⟩ : ∃ b, l0[n]? = some b := ⟨_, List.getElem?_eq_getElem hlt⟩
      have hrd : rd_T31 l0 (n : Int) = b := by
        unfold rd_T31; rw [Int.toNat_natCast, List.getD_eq_getElem?_getD, hbl]; rfl
      have hdrop : l0.drop n = b :: l0.drop (n + 1) := by
        rw [List.drop_eq_getElem_cons hlt]; congr 1; exact (List.getElem?_eq_some_iff.1 hbl).2
      have hokb := HOK.out b (List.mem_of_getElem? hbl)
      obtain ⟨ad, A1, c1, hA, q0, q1, hl1, hC1⟩ := at_T31 HR0.out (n : Int) (by omega) (by omega)
      rw [hrd] at q0 q1 hl1 hC1
      cases hA
      have hbw := (HC3.out.same (Heap.Chg.of_below hbel.out)).below
      have hC1' := Lib.hid (Kd.C_below hC1 hbw)
      obtain ⟨ab, ao, sp⟩ := ad
      have hsp : sp = none := by
        obtain ⟨ad, _, _, hA, z0, _⟩ := at_T31 HR0.out 0 (Int.le_refl _) (by omega)
        cases hA
        have := World.cell?_spot z0
        simpa [Addr.add] using this
      subst hsp
      simp only [Int.toNat_natCast, Lib2.add_pl] at q0 q1
      replace q0 := (hbw.cell (World.block_lt_of_cell? w _ q0)).trans q0
      replace q1 := (hbw.cell (World.block_lt_of_cell? w _ q1)).trans q1
      have hbx := hbel.out.size
      have hpx := Heap.blk_lt HX3.out
      obtain ⟨d, ok, hd, hdl⟩ := depth_some b hokb
      have hr1 := hrun.out
      rw [hdrop] at hr1
      simp only [chkRun] at hr1
      have hbb : blockBad l0.length n b = if ok = false ∨ b.f0 < 0 ∨ 100 < b.f0 ∨ (n = 0 ∧ b.f0 ≠ 0) ∨ d.contains (-1) = true then some 0 else firstBad l0.length b.f1 d 0 := by
        unfold blockBad; rw [hd]
      rw [hbb] at hr1
      have DC := Lib.hid (fun (w : World) (h0 : Kd.C k38 w A1 b.f1.length b.f1) => code_Depth.calls b.f0 A1 c1 b.f1 d ok w h0 hl1 hd)
      have bn0 : (0 : Int) ≤ (n : Int) := Int.natCast_nonneg _
      have bn1 : (n : Int) < (l0.length : Int) := by omega
      have HR1 := Lib.hid hr1
      have HDL := Lib.hid hdl
      have HOB := Lib.hid hokb
      have HDR := Lib.hid hdrop
      clear hrd hbl hdrop hC1 hbw hr1 hbb hd hdl hokb
      go_wp2_with fail
      refine (DC.out _ (Kd.C_alloc hC1'.out _)).mono ?_
      rintro e w5 ⟨v5, rfl, hR5, hb5⟩
      obtain ⟨A5, c5, hv5, hlc5, hC5⟩ := Kd.R_reads hR5
      subst hv5
      have hX7 : (wr.alloc (.cells #[.int .i64 b.f0, .slice A1 b.f1.length c1] 31)).heap[wr.heap.size]? = some (.cells #[.int .i64 b.f0, .slice A1 b.f1.length c1] 31 (0, 0)) := Heap.blk_new rfl
      have hX5 := (hb5.block _ (Heap.blk_lt hX7)).trans hX7
      have hBel5 : Below W3.heap.size W3 w5 := (((Heap.Chg.of_below (F := []) hbel.out).alloc _).same (Heap.Chg.of_below hb5)).below
      have p0 : w5.cell? ⟨wr.heap.size, 0, none⟩ = some (.int .i64 b.f0) := by rw [Heap.blk_cell hX5]; rfl
      have p1 : w5.cell? ⟨wr.heap.size, 1, none⟩ = some (.slice A1 b.f1.length c1) := by rw [Heap.blk_cell hX5]; rfl
      have hC15 : Kd.C k38 w5 A1 b.f1.length b.f1 := Kd.C_below (Kd.C_alloc hC1'.out _) hb5
      have HC15 := Lib.hid hC15
      have HC5 := Lib.hid hC5
      have HB5 := Lib.hid hBel5
      clear hX7 hX5 hBel5 hC15 hC5 hR5 hb5 DC hC1' q0 q1 hbel
      generalize wr.heap.size = pb at *
      clear hbx
      by_cases hbad : ok = false ∨ b.f0 < 0 ∨ 100 < b.f0 ∨ (n = 0 ∧ b.f0 ≠ 0)
      · have hres : chkRun l0.length l0 0 = ((n : Int), (0 : Int), (110 : Int)) := by
          have := HR1.out
          rw [if_pos (by rcases hbad with h | h | h | h <;> simp [h])] at this
          exact this.symm
        have hh := hH.out
        rw [hres] at hh
        cases hh
        clear hres
        have hF : Below w.heap.size w w5 := (HC3.out.same (Heap.Chg.of_below HB5.out)).below
        have HF := Lib.hid hF
        clear hF
        cases ok with
        | false =>
          clear hbad
          go_wp2_with fail
          go_ret3
          exact ⟨rfl, HF.out⟩
        | true =>
          by_cases g1 : b.f0 < 0
          · have t2 : decide (b.f0 < 0) = true := by simpa using g1
            clear hbad g1
            go_wp2_with fail
            go_ret3
            exact ⟨rfl, HF.out⟩
          · have t2 : decide (b.f0 < 0) = false := by simpa using g1
            by_cases g2 : 100 < b.f0
            · have t3 : decide (b.f0 > 100) = true := by simpa using g2
              clear hbad g1 g2
              go_wp2_with fail
              go_ret3
              exact ⟨rfl, HF.out⟩
            · have t3 : decide (b.f0 > 100) = false := by simpa using g2
              have g3 : n = 0 ∧ b.f0 ≠ 0 := by
                rcases hbad with h | h | h | h
                · cases h
                · exact absurd h g1
                · exact absurd h g2
                · exact h
              obtain ⟨g3, g4⟩ := g3
              have t4 : ((n : Int) == 0) = true := by simp [g3]
              have t5 : (b.f0 != 0) = true := by simpa using g4
              clear hbad g1 g2 g3 g4
              go_wp2_with fail
              go_ret3
              exact ⟨rfl, HF.out⟩
      · have hok1 : ok = true := by cases ok <;> simp_all
        subst hok1
        have t2 : decide (b.f0 < 0) = false := by simp; omega
        have t3 : decide (b.f0 > 100) = false := by simp; omega
        obtain ⟨hl0, hdl⟩ := HDL.out rfl
        obtain ⟨z5, hz5⟩ : ∃ z5, A5 = some z5 := by
          obtain ⟨ad, hA, _⟩ := Kd.at_int HC5.out 0 (by omega) (by omega)
          exact ⟨_, hA⟩
        subst hz5
        obtain ⟨g5, o5, s5⟩ := z5
        have hs5 : s5 = none := by
          obtain ⟨ad, hA, hc⟩ := Kd.at_int HC5.out 0 (by omega) (by omega)
          cases hA
          have := World.cell?_spot hc
          simpa [Addr.add] using this
        subst hs5
        have hc5 : ∀ j, j < d.length → w5.cell? ⟨g5, o5 + j, none⟩ = some (.int .i64 (d.getD j 0)) := by
          intro j hj
          obtain ⟨ad, hA, hc⟩ := Kd.at_int HC5.out (j : Int) (by omega) (by omega)
          cases hA
          simp only [Int.toNat_natCast, Lib2.add_pl] at hc
          exact hc
        have CC := Tryd.slices_Contains_int g5 o5 d.length c5 d (-1) w5 (Nat.le_refl _) (by unfold okBlock at HOB; have := HOB.out.1; omega) hc5
        rw [List.take_length, hdl] at CC
        have HCC := Lib.hid CC
        have HD5 := Lib.hid hc5
        clear CC hc5
        have HBAD := Lib.hid hbad
        clear hbad
        by_cases g0 : n = 0
        all_goals
          have t4 : ((n : Int) == 0) = decide (n = 0) := by by_cases h : n = 0 <;> simp [h]
          first
          | (have g5' : b.f0 = 0 := by
               by_cases h : b.f0 = 0
               · exact h
               · exact absurd (.inr (.inr (.inr ⟨g0, h⟩))) HBAD.out
             have t5 : (b.f0 != 0) = false := by simp [g5']
             rw [decide_eq_true g0] at t4
             clear g5')
          | rw [decide_eq_false g0] at t4
          clear g0
          cases hcc : d.contains (-1) with
          | true =>
            rw [hcc] at HCC
            have hres : chkRun l0.length l0 0 = ((n : Int), (0 : Int), (110 : Int)) := by
              have := HR1.out
              rw [if_pos (.inr (.inr (.inr (.inr hcc))))] at this
              exact this.symm
            have hh := hH.out
            rw [hres] at hh
            cases hh
            clear hres hcc
            have HF := Lib.hid (HC3.out.same (Heap.Chg.of_below HB5.out)).below
            go_wp2_with fail
            refine HCC.out.mono ?_
            rintro e w6 ⟨rfl, rfl⟩
            go_wp2_with fail
            go_ret3
            exact ⟨rfl, HF.out⟩
          | false =>
            rw [hcc] at HCC
            have hr2 := HR1.out
            rw [if_neg (by rintro (h | h | h | h | h); cases h; exact HBAD.out (.inr (.inl h)); exact HBAD.out (.inr (.inr (.inl h))); exact HBAD.out (.inr (.inr (.inr h))); rw [hcc] at h; cases h)] at hr2
            have HR2 := Lib.hid hr2
            have hmb : b.f1.length ≤ 1000000 := by have h := HOB.out; unfold okBlock at h; exact h.1
            have HOI := Lib.hid (show ∀ i ∈ b.f1, okIns i by have h := HOB.out; unfold okBlock at h; exact h.2)
            clear hr2 hcc HR1
            go_wp2_with fail
            refine HCC.out.mono ?_
            rintro e w6 ⟨rfl, rfl⟩
            clear HCC HR0 HOK HDL HOB HBAD t4
            go_wp2_with fail
            obtain ⟨wo, rfl⟩ : ∃ wo : World, wo = wr := ⟨_, rfl⟩
            go_loopw [61] (fun j wx => ∃ m : Nat, j = .int .i64 m ∧ m ≤ b.f1.length ∧ Hid (firstBad l0.length (b.f1.drop m) (d.drop m) m = firstBad l0.length b.f1 d 0) ∧ Hid (Below w6.heap.size w6 wx)) (fun j _ => b.f1.length - (intOf j).toNat)
            case atStart => exact ⟨0, rfl, Nat.zero_le _, Lib.hid rfl, Lib.hid (Below.refl _ _)⟩
            case round =>
              obtain ⟨m, rfl, hm, hrn, hbl⟩ := hrel
              have hpb : Below W3.heap.size W3 wr := ((Heap.Chg.of_below (F := []) HB5.out).same (Heap.Chg.of_below hbl.out)).below
              have HPB := Lib.hid hpb
              by_cases hml : m < b.f1.length
              · obtain ⟨i, hil⟩ : ∃ i, b.f1[m]? = some i := ⟨_, List.getElem?_eq_getElem hml⟩
                have hrd : rd_T38 b.f1 (m : Int) = i := by
                  unfold rd_T38; rw [Int.toNat_natCast, List.getD_eq_getElem?_getD, hil]; rfl
                have hdrop : b.f1.drop m = i :: b.f1.drop (m + 1) := by
                  rw [List.drop_eq_getElem_cons hml]; congr 1; exact (List.getElem?_eq_some_iff.1 hil).2
                have hmd : m < d.length := by omega
                obtain ⟨x, hx⟩ : ∃ x, d[m]? = some x := ⟨_, List.getElem?_eq_getElem hmd⟩
                have hdd : d.drop m = x :: d.drop (m + 1) := by
                  rw [List.drop_eq_getElem_cons hmd]; congr 1; exact (List.getElem?_eq_some_iff.1 hx).2
                have hgx : d.getD m 0 = x := by rw [List.getD_eq_getElem?_getD, hx]; rfl
                have hoki := HOI.out i (List.mem_of_getElem? hil)
                obtain ⟨ad, hA, q0, q1, q2, q3⟩ := at_T38 HC15.out (m : Int) (by omega) (by omega)
                rw [hrd] at q0 q1 q2 q3
                cases hA
                obtain ⟨ib, io, isp⟩ := ad
                have hsp : isp = none := by
                  obtain ⟨ad, hA, z0, _⟩ := at_T38 HC15.out 0 (Int.le_refl _) (by omega)
                  cases hA
                  have := World.cell?_spot z0
                  simpa [Addr.add] using this
                subst hsp
                simp only [Int.toNat_natCast, Lib2.add_pl] at q0 q1 q2 q3
                have q4 := HD5.out m hmd
                rw [hgx] at q4
                have hb := hbl.out
                replace q0 := (hb.cell (World.block_lt_of_cell? _ _ q0)).trans q0
                replace q1 := (hb.cell (World.block_lt_of_cell? _ _ q1)).trans q1
                replace q2 := (hb.cell (World.block_lt_of_cell? _ _ q2)).trans q2
                replace q3 := (hb.cell (World.block_lt_of_cell? _ _ q3)).trans q3
                replace q4 := (hb.cell (World.block_lt_of_cell? _ _ q4)).trans q4
                have hX := (hpb.block _ (Heap.blk_lt HX3.out)).trans HX3.out
                have q5 : wr.cell? ⟨px, 0, none⟩ = some (.int .i64 l0.length) := by rw [Heap.blk_cell hX]; rfl
                have q6 : wr.cell? ⟨px, 1, none⟩ = some (.map (some mb)) := by rw [Heap.blk_cell hX]; rfl
                have hrn1 := hrn.out
                rw [hdrop, hdd, firstBad_cons] at hrn1
                have bm0 : (0 : Int) ≤ (m : Int) := Int.natCast_nonneg _
                have bm1 : (m : Int) < (b.f1.length : Int) := by omega
                have HRN := Lib.hid hrn1
                have HOKI := Lib.hid hoki
                clear hil hrd hdrop hx hdd hgx hoki hb hX hrn1 hrn hpb
                go_upto_region 13 with fail
                have W4X : (wr.alloc (.cells #[.int .u8 i.f0, .int .i64 i.f1, .int .i64 i.f2, .int .u64 i.f3] 38)).heap[wr.heap.size]? = some (.cells #[.int .u8 i.f0, .int .i64 i.f1, .int .i64 i.f2, .int .u64 i.f3] 38 (0, 0)) := Heap.blk_new rfl
                have W4B : Below w6.heap.size w6 (wr.alloc (.cells #[.int .u8 i.f0, .int .i64 i.f1, .int .i64 i.f2, .int .u64 i.f3] 38)) := ((Heap.Chg.of_below (F := []) hbl.out).alloc _).below
                have al := fun p u => Heap.Chg.cell ((Heap.Chg.refl [] wr).alloc (.cells #[.int .u8 i.f0, .int .i64 i.f1, .int .i64 i.f2, .int .u64 i.f3] 38)) (p := p) (u := u)
                replace q4 := al _ _ q4 (by simp)
                replace q5 := al _ _ q5 (by simp)
                replace q6 := al _ _ q6 (by simp)
                clear al q0 q1 q2 q3 hbl
                generalize hW4 : wr.alloc (.cells #[.int .u8 i.f0, .int .i64 i.f1, .int .i64 i.f2, .int .u64 i.f3] 38) = W4 at *
                have HW4 := Lib.hid hW4
                clear hW4
                have hpi : Hid (Below W3.heap.size W3 W4) := Lib.hid ((Heap.Chg.of_below (F := []) HB5.out).same (Heap.Chg.of_below W4B)).below
                generalize wr.heap.size = pi' at *
                have P0 : W4.cell? ⟨pi', 0, none⟩ = some (.int .u8 i.f0) := by rw [Heap.blk_cell W4X]; rfl
                have P1 : W4.cell? ⟨pi', 1, none⟩ = some (.int .i64 i.f1) := by rw [Heap.blk_cell W4X]; rfl
                have P2 : W4.cell? ⟨pi', 2, none⟩ = some (.int .i64 i.f2) := by rw [Heap.blk_cell W4X]; rfl
                have P3 : W4.cell? ⟨pi', 3, none⟩ = some (.int .u64 i.f3) := by rw [Heap.blk_cell W4X]; rfl
                have MC := Lib.hid (fun W (hW : Below W4.heap.size W4 W) => may_calls l0.length mb 29 D i.f0 i.f1 i.f2 i.f3 x W (kept_map (kept_map HO3.out hpi.out) hW) HT.out (okIns_wf HOKI.out) (by have h := HOKI.out; unfold okIns at h; omega) (by have h := HOKI.out; unfold okIns at h; omega))
                have KS := Lib.hid (fun W (b : Below W4.heap.size W4 W) => (show W.cell? ⟨g5, o5 + m, none⟩ = some (.int .i64 x) ∧ W.cell? ⟨px, 0, none⟩ = some (.int .i64 l0.length) ∧ W.cell? ⟨px, 1, none⟩ = some (.map (some mb)) ∧ W.cell? ⟨pi', 0, none⟩ = some (.int .u8 i.f0) ∧ W.cell? ⟨pi', 1, none⟩ = some (.int .i64 i.f1) ∧ W.cell? ⟨pi', 2, none⟩ = some (.int .i64 i.f2) ∧ W.cell? ⟨pi', 3, none⟩ = some (.int .u64 i.f3) from
                  ⟨(b.cell (World.block_lt_of_cell? _ _ q4)).trans q4, (b.cell (World.block_lt_of_cell? _ _ q5)).trans q5, (b.cell (World.block_lt_of_cell? _ _ q6)).trans q6, (b.cell (World.block_lt_of_cell? _ _ P0)).trans P0, (b.cell (World.block_lt_of_cell? _ _ P1)).trans P1, (b.cell (World.block_lt_of_cell? _ _ P2)).trans P2, (b.cell (World.block_lt_of_cell? _ _ P3)).trans P3⟩))
                have HW4B := Lib.hid W4B
                clear W4B W4X
                go_region_held3 (fun w' => w'.cell? ⟨g5, o5 + m, none⟩ = some (.int .i64 x) ∧ w'.cell? ⟨px, 0, none⟩ = some (.int .i64 l0.length) ∧ w'.cell? ⟨px, 1, none⟩ = some (.map (some mb)) ∧ w'.cell? ⟨pi', 0, none⟩ = some (.int .u8 i.f0) ∧ w'.cell? ⟨pi', 1, none⟩ = some (.int .i64 i.f1) ∧ w'.cell? ⟨pi', 2, none⟩ = some (.int .i64 i.f2) ∧ w'.cell? ⟨pi', 3, none⟩ = some (.int .u64 i.f3))
                  (first | go_keep | exact KS.out _ ((Below.refl _ _).drew.trans (by assumption)))
                  ((go_at_call 17; refine (MC.out _ (Heap.below_draw (Below.refl _ _) 1)).mono ?_; rintro e W5 ⟨rfl, hb5⟩))
                have hB6 : Below w6.heap.size w6 W5 := ((Heap.Chg.of_below (F := []) HW4B.out).same (Heap.Chg.of_below ((Below.refl _ _).drew.trans hb5))).below
                have HB6 := Lib.hid hB6
                clear hB6 hb5 q4 q5 q6 P0 P1 P2 P3 MC KS
                cases hmi : mayIns l0.length i x with
                | true =>
                  have hrn1 := HRN.out
                  rw [if_pos hmi] at hrn1
                  have HRN1 := Lib.hid hrn1
                  clear hmi hrn1
                  go_wp2_with fail
                  go_roundw
                  case rel => exact ⟨m + 1, by go_num, by omega, HRN1, HB6⟩
                  case measure => simp [intOf]; omega
                | false =>
                  have hrn1 := HRN.out
                  rw [if_neg (by rw [hmi]; simp)] at hrn1
                  have hr2 := HR2.out
                  rw [← hrn1] at hr2
                  have hh := hH.out
                  rw [← hr2] at hh
                  cases hh
                  have HF := Lib.hid ((HC3.out.same (Heap.Chg.of_below HB5.out)).same (Heap.Chg.of_below HB6.out)).below
                  clear hmi hrn1 hr2
                  go_wp2_with fail
                  go_ret3
                  exact ⟨rfl, HF.out⟩
              · obtain rfl : m = b.f1.length := by omega
                have hrn1 := hrn.out
                rw [List.drop_length] at hrn1
                simp only [firstBad] at hrn1
                have hr2 := HR2.out
                rw [← hrn1] at hr2
                have HN := Lib.hid hr2
                clear hrn1 hr2 hpb
                go_wp2_with fail
                go_roundw
                case rel => exact ⟨n + 1, by go_num, by omega, HN, HPB⟩
                case measure => simp [intOf]; omega
    · obtain rfl : n = l0.length := by omega
      have h1 := hrun.out
      rw [List.drop_length] at h1
      simp only [chkRun] at h1
      have hh := hH.out
      rw [← h1] at hh
      cases hh
      have HF := Lib.hid (HC3.out.same (Heap.Chg.of_below hbel.out)).below
      clear h1 hbel
      go_wp2_with fail
      go_ret3
      exact ⟨rfl, HF.out⟩

end Go.Proofs.YtkiamiphmndmcaaDoor.PCodes

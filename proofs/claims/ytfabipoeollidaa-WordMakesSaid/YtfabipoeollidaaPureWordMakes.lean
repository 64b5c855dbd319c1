/- Numbers, places, names and handles as words are the document's, for any kind and any number; no conditions. -/
import Derived.Test.YtfabipoeollidaaPWordMakesx2
import Derived.Test.YtfabipoeollidaaWord
namespace Go.Proofs.Ytfabipoeollidaa.Pure
open Go.RowKit Go.Proofs.Ytfabipoeollidaa.PWordMakes Go.Proofs.YtfabipoeollidaaW.PrintWords Go.Proofs.YtfabipoeollidaaW.PrintLast
open Go Go.Proofs.Ytfabipoeollidaa.Word Go.Proofs.YtfabipoeollidaaW.PrintMore
set_option linter.unusedSimpArgs false
theorem b_Int (n : Int) : word_Int.f n = some (intP n) := by
  unfold word_Int.f intP
  (repeat' split) <;> first | rfl | (simp only [wrap_u64]; congr 2; omega)
theorem b_ToInt (w : Int) (h0 : 0 ≤ w) (h1 : w < 18446744073709551616) : word_ToInt.f w = some (toIntP w) := by
  unfold word_ToInt.f toIntP
  rw [u64_and7 w h0 h1]
  (repeat' split) <;> rfl
theorem b_Bool (b : Bool) : word_Bool.f b = some (boolP b) := by cases b <;> rfl
theorem b_Mul64 (a b : Int) (ha : 0 ≤ a) (ha' : a < 18446744073709551616) (hb : 0 ≤ b) (hb' : b < 18446744073709551616) :
    bits_Mul64.f a b = some (a * b / 18446744073709551616, a * b % 18446744073709551616) := by
  unfold bits_Mul64.f
  rw [mul_hi a b ha ha' hb hb', wrap_u64 (a * b)]
theorem b_times (k : Nat) (a b : Int) (ha : -1099511627776 < a) (ha' : a < 1099511627776) (hb : -1099511627776 < b) (hb' : b < 1099511627776) :
    word_times.f (k + 1) a b = some (intP (a * b)) := by
  unfold word_times.f
  rw [mx_abs a ha ha', mx_abs b hb hb', wrap_u64, wrap_u64, Int.emod_eq_of_lt (by omega) (by omega), Int.emod_eq_of_lt (by omega) (by omega),
    b_Mul64 _ _ (by omega) (by omega) (by omega) (by omega), abs_mul]
  simp only [Option.bind_some]
  have hm : (a * b).natAbs < 1208925819614629174706176 := by
    rw [Int.natAbs_mul]
    exact Nat.lt_of_le_of_lt (Nat.mul_le_mul (show a.natAbs ≤ 1099511627775 by omega) (show b.natAbs ≤ 1099511627775 by omega)) (by decide)
  have hs : (decide (a < 0) != decide (b < 0)) = true → a * b ≤ 0 := by
    intro h
    by_cases h1 : a < 0
    · have h2 : ¬ b < 0 := by intro h2; simp [h1, h2] at h
      exact Int.mul_nonpos_of_nonpos_of_nonneg (by omega) (by omega)
    · have h2 : b < 0 := by
        by_cases h2 : b < 0
        · exact h2
        · simp [h1, h2] at h
      exact Int.mul_nonpos_of_nonneg_of_nonpos (by omega) (by omega)
  have hp : ¬ (decide (a < 0) != decide (b < 0)) = true → 0 ≤ a * b := by
    intro h
    by_cases h1 : a < 0
    · have h2 : b < 0 := by
        by_cases h2 : b < 0
        · exact h2
        · simp [h1, h2] at h
      exact Int.mul_nonneg_of_nonpos_of_nonpos (by omega) (by omega)
    · have h2 : ¬ b < 0 := by intro h2; simp [h1, h2] at h
      exact Int.mul_nonneg (by omega) (by omega)
  generalize hab : a * b = c at *
  by_cases h1 : ((c.natAbs : Int)) / 18446744073709551616 > 0
  · rw [if_pos h1, intP_no (by omega)]
    simp [word_times.j0]
  · rw [if_neg h1]
    have hl : ((c.natAbs : Int)) % 18446744073709551616 = c.natAbs := by omega
    rw [hl]
    by_cases h2 : ((c.natAbs : Int)) ≥ 1099511627776
    · rw [intP_no (by omega)]
      simp [word_times.j0, h2]
    · simp only [word_times.j0]
      rw [if_neg (by simp [h2]), b_Int, b_Int, wrap64_id (n := (c.natAbs : Int)) (by omega) (by omega), wrap64_id (by omega) (by omega)]
      simp only [Option.bind_some]
      split
      · rename_i h3; have := hs h3
        rw [show -((c.natAbs : Int)) = c by omega]
      · rename_i h3; have := hp h3
        rw [show ((c.natAbs : Int)) = c by omega]
theorem tdiv_bound (x y : Int) (h0 : -1099511627776 < x) (h1 : x < 1099511627776) : -1099511627776 < x.tdiv y ∧ x.tdiv y < 1099511627776 := by
  have := Int.natAbs_tdiv_le_natAbs x y
  omega
theorem b_Do (k : Nat) (op a b : Int) (ha : 0 ≤ a) (ha' : a < 18446744073709551616) (hb : 0 ≤ b) (hb' : b < 18446744073709551616) :
    word_Do.f (k + 4) op a b = some (doP op a b) := by
  have hx := toIntP_range a
  have hy := toIntP_range b
  have j2 : ¬ ((op = 47 ∨ op = 37) ∧ (toIntP b).1 = 0) → (toIntP a).2 = true → (toIntP b).2 = true → isOp op → word_Do.j2 (k + 2) op (toIntP a).1 (toIntP b).1 = some (doP op a b) := by
    intro hz h1 h2 ho
    unfold doP
    rw [if_neg (fun h => h ho), if_neg (by simp [h1, h2]), if_neg hz]
    generalize (toIntP a).1 = x at *
    generalize (toIntP b).1 = y at *
    have := tdiv_bound x y hx.1 hx.2
    simp only [word_Do.j2]
    rcases ho with rfl | rfl | rfl | rfl | rfl | rfl | rfl
    · simp [b_Int, wrap64_id (n := x + y) (by omega) (by omega)]
    · simp [b_Int, wrap64_id (n := x - y) (by omega) (by omega)]
    · simp [b_times k x y hx.1 hx.2 hy.1 hy.2]
    · have : y ≠ 0 := fun h => hz ⟨.inl rfl, h⟩
      simp [this, b_Int, wrap64_id (n := x.tdiv y) (by omega) (by omega)]
    · have : y ≠ 0 := fun h => hz ⟨.inr rfl, h⟩
      simp [this, b_Int]
    · simp [b_Bool]
    · simp [b_Bool]
  have j0 : isOp op → word_Do.j0 (k + 4) op a b = some (doP op a b) := by
    intro ho
    simp only [word_Do.j0]
    rw [b_ToInt a ha ha', b_ToInt b hb hb']
    simp only [Option.bind_some]
    cases h1 : (toIntP a).2 with
    | false => simp [word_Do.j1, doP, ho, h1]
    | true =>
      cases h2 : (toIntP b).2 with
      | false => simp [word_Do.j1, doP, ho, h1, h2]
      | true =>
        by_cases hz : (op = 47 ∨ op = 37) ∧ (toIntP b).1 = 0
        · rcases hz with ⟨h3 | h3, h4⟩ <;> subst h3 <;> simp [isOp, word_Do.j1, doP, h1, h2, h4]
        · have := j2 hz h1 h2 ho
          simp only [Bool.not_true, if_true, word_Do.j1]
          rw [if_neg (by simp)]
          split
          · rename_i h4
            rw [if_neg (fun h => hz ⟨.inl h, h4⟩), if_neg (fun h => hz ⟨.inr h, h4⟩)]; exact this
          · exact this
  unfold word_Do.f
  by_cases ho : isOp op
  · rw [j0 ho]
    rcases ho with rfl | rfl | rfl | rfl | rfl | rfl | rfl <;> simp
  · have : doP op a b = (0, 1) := by unfold doP; rw [if_pos ho]
    rw [this]
    simp only [isOp, not_or] at ho
    simp [ho]
theorem b_shown (k : Nat) : eddywheellaw01_shown.f (k + 4) = some true := by
  have e1 : intP (-1) = (18446744073709551608, 0) := by decide +kernel
  have e2 : intP (-7) = (18446744073709551560, 0) := by decide +kernel
  have e3 : intP 2 = (16, 0) := by decide +kernel
  have e4 : doP 47 18446744073709551560 16 = (18446744073709551592, 0) := by decide +kernel
  have e5 : doP 37 18446744073709551560 16 = (18446744073709551608, 0) := by decide +kernel
  have e6 : toIntP 18446744073709551592 = (-3, true) := by decide +kernel
  have e7 : toIntP 18446744073709551608 = (-1, true) := by decide +kernel
  unfold eddywheellaw01_shown.f
  rw [b_Int, b_Int, b_Int, e1, e2, e3]
  simp only [Option.bind_some]
  rw [b_Do k 47 _ _ (by decide) (by decide) (by decide) (by decide), e4]
  simp only [Option.bind_some]
  rw [b_Do k 37 _ _ (by decide) (by decide) (by decide) (by decide), e5]
  simp only [Option.bind_some]
  rw [b_ToInt _ (by decide) (by decide), b_ToInt _ (by decide) (by decide), e6, e7]
  simp
theorem b_Of (k : Nat) (kd n : Int) (hn : -9223372036854775808 ≤ n) (hn' : n < 9223372036854775808) : word_Of.f (k + 1) kd n = some (ofP kd n) := by
  have key : kd = 1 ∨ kd = 3 ∨ kd = 4 → word_Of.j0 (k + 1) kd n true = some (ofP kd n) := by
    intro hk
    simp only [word_Of.j0, if_true]
    unfold ofP
    by_cases h0 : n ≥ 0
    · by_cases h1 : n < 1099511627776
      · rw [if_pos h0, if_pos h1, if_pos ⟨hk, h0, h1⟩, wrap_u64 n, wrap_u64, wrap_u64, Int.emod_eq_of_lt (a := n) (by omega) (by omega), Int.emod_eq_of_lt (by omega) (by omega), Int.emod_eq_of_lt (a := kd) (by omega) (by omega)]
        rw [u64_or8 (by omega) (by omega) (by omega) (by omega) (by omega)]
      · rw [if_pos h0, if_neg h1, if_neg (fun h => h1 h.2.2)]
    · rw [if_neg h0, if_neg (fun h => h0 h.2.1)]
  unfold word_Of.f
  by_cases h1 : kd = 1
  · rw [if_pos h1, show (kd == 1) = true by simpa using h1]; exact key (.inl h1)
  · by_cases h3 : kd = 3
    · rw [if_neg h1, if_pos h3, show (kd == 3) = true by simpa using h3]; exact key (.inr (.inl h3))
    · by_cases h4 : kd = 4
      · rw [if_neg h1, if_neg h3, show (kd == 4) = true by simpa using h4]; exact key (.inr (.inr h4))
      · rw [if_neg h1, if_neg h3, show (kd == 4) = false by simpa using h4]
        unfold ofP
        rw [if_neg (fun h => by omega)]
        simp [word_Of.j0]
theorem r_Int (n : Int) : eddywheelref01_Int.f n = some (intP n) := by
  unfold eddywheelref01_Int.f intP
  (repeat' split) <;> first | rfl | (simp only [wrap_u64]; congr 2; omega)
theorem r_Bool (b : Bool) : eddywheelref01_Bool.f b = some (boolP b) := by cases b <;> rfl
theorem r_Of (kd n : Int) (hn : -9223372036854775808 ≤ n) (hn' : n < 9223372036854775808) : eddywheelref01_Of.f kd n = some (ofP kd n) := by
  have key : kd = 1 ∨ kd = 3 ∨ kd = 4 → (if n < 0 then some ((0 : Int), (1 : Int)) else if n ≥ 1099511627776 then some (0, 1) else some (IntKind.u64.wrap ((IntKind.u64.wrap ((IntKind.u64.wrap n) * 8)) + (IntKind.u64.wrap kd)), 0)) = some (ofP kd n) := by
    intro hk
    unfold ofP
    by_cases h0 : n < 0
    · rw [if_pos h0, if_neg (fun h => by omega)]
    · by_cases h1 : n ≥ 1099511627776
      · rw [if_neg h0, if_pos h1, if_neg (fun h => by omega)]
      · rw [if_neg h0, if_neg h1, if_pos ⟨hk, by omega, by omega⟩]
        simp only [wrap_u64]
        congr 2; omega
  unfold eddywheelref01_Of.f
  by_cases h1 : kd = 1
  · rw [if_pos h1]; exact key (.inl h1)
  · by_cases h3 : kd = 3
    · rw [if_neg h1, if_pos h3]; exact key (.inr (.inl h3))
    · by_cases h4 : kd = 4
      · rw [if_neg h1, if_neg h3, if_pos h4]; exact key (.inr (.inr h4))
      · rw [if_neg h1, if_neg h3, if_neg h4]
        unfold ofP
        rw [if_neg (fun h => by omega)]
theorem WordMakes : eddywheellaw01_WordMakes.Pure := by
  intro kd n _ hn
  obtain ⟨hn, hn'⟩ := wf_i64 hn
  refine ⟨8, ?_⟩
  unfold eddywheellaw01_WordMakes.f
  rw [b_shown 4, b_Int, r_Int, b_Of 7 kd n hn hn', r_Of kd n hn hn', b_Bool, r_Bool]
  simp
end Go.Proofs.Ytfabipoeollidaa.Pure

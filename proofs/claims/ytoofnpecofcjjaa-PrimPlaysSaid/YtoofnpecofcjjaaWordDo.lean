/- What the numbers of layer 1 answer, over the printed contracts; each theorem states its conditions. -/
import Derived.Test.YtoofnpecofcjjaaPPrimPlaysx2
import Derived.Test.YtoofnpecofcjjaaWordP
namespace Go.Proofs.Ytoofnpecofcjjaa.Pure
open Go Go.RowKit Go.Proofs.Ytoofnpecofcjjaa.PPrimPlays Go.Proofs.YtoofnpecofcjjaaW.PrintWords Go.Proofs.YtoofnpecofcjjaaW.PrintLast Go.Proofs.YtoofnpecofcjjaaW.PrintMore Go.Proofs.Ytoofnpecofcjjaa.Word
theorem mx_abs (a : Int) (h : -1099511627776 < a) (h' : a < 1099511627776) : mx a (wrap64 (-a)) = a.natAbs := by
  rw [wrap64_id (by omega) (by omega)]; unfold mx; split <;> omega
open Go Go.Proofs.Ytoofnpecofcjjaa.Word Go.Proofs.YtoofnpecofcjjaaW.PrintMore
set_option linter.unusedSimpArgs false
theorem b_Int (n : Int) : word_Int.f n = some (intP n) := by
  unfold word_Int.f intP
  (repeat' split) <;> first | rfl | (simp only [wrap_u64]; congr 2; omega)
theorem b_ToInt (w : Int) (h0 : 0 ≤ w) (h1 : w < 18446744073709551616) : word_ToInt.f w = some (toIntP w) := by
  unfold word_ToInt.f toIntP
  rw [u64_and7 w h0 h1]
  (repeat' split) <;> rfl
theorem b_Bool (b : Bool) : word_Bool.f b = some (boolP b) := by cases b <;> rfl
theorem b_Mul64 (a b : Int) (ha : 0 ≤ a) (ha' : a < 18446744073709551616) (hb : 0 ≤ b) (hb' : b < 18446744073709551616) :
    bits_Mul64.f a b = some (a * b / 18446744073709551616, a * b % 18446744073709551616) := by
  unfold bits_Mul64.f
  rw [mul_hi a b ha ha' hb hb', wrap_u64 (a * b)]
theorem b_times (k : Nat) (a b : Int) (ha : -1099511627776 < a) (ha' : a < 1099511627776) (hb : -1099511627776 < b) (hb' : b < 1099511627776) :
    word_times.f (k + 1) a b = some (intP (a * b)) := by
  unfold word_times.f
  rw [mx_abs a ha ha', mx_abs b hb hb', wrap_u64, wrap_u64, Int.emod_eq_of_lt (by omega) (by omega), Int.emod_eq_of_lt (by omega) (by omega),
    b_Mul64 _ _ (by omega) (by omega) (by omega) (by omega), abs_mul]
  simp only [Option.bind_some]
  have hm : (a * b).natAbs < 1208925819614629174706176 := by
    rw [Int.natAbs_mul]
    exact Nat.lt_of_le_of_lt (Nat.mul_le_mul (show a.natAbs ≤ 1099511627775 by omega) (show b.natAbs ≤ 1099511627775 by omega)) (by decide)
  have hs : (decide (a < 0) != decide (b < 0)) = true → a * b ≤ 0 := by
    intro h
    by_cases h1 : a < 0
    · have h2 : ¬ b < 0 := by intro h2; simp [h1, h2] at h
      exact Int.mul_nonpos_of_nonpos_of_nonneg (by omega) (by omega)
    · have h2 : b < 0 := by
        by_cases h2 : b < 0
        · exact h2
        · simp [h1, h2] at h
      exact Int.mul_nonpos_of_nonneg_of_nonpos (by omega) (by omega)
  have hp : ¬ (decide (a < 0) != decide (b < 0)) = true → 0 ≤ a * b := by
    intro h
    by_cases h1 : a < 0
    · have h2 : b < 0 := by
        by_cases h2 : b < 0
        · exact h2
        · simp [h1, h2] at h
      exact Int.mul_nonneg_of_nonpos_of_nonpos (by omega) (by omega)
    · have h2 : ¬ b < 0 := by intro h2; simp [h1, h2] at h
      exact Int.mul_nonneg (by omega) (by omega)
  generalize hab : a * b = c at *
  by_cases h1 : ((c.natAbs : Int)) / 18446744073709551616 > 0
  · rw [if_pos h1, intP_no (by omega)]
    simp [word_times.j0]
  · rw [if_neg h1]
    have hl : ((c.natAbs : Int)) % 18446744073709551616 = c.natAbs := by omega
    rw [hl]
    by_cases h2 : ((c.natAbs : Int)) ≥ 1099511627776
    · rw [intP_no (by omega)]
      simp [word_times.j0, h2]
    · simp only [word_times.j0]
      rw [if_neg (by simp [h2]), b_Int, b_Int, wrap64_id (n := (c.natAbs : Int)) (by omega) (by omega), wrap64_id (by omega) (by omega)]
      simp only [Option.bind_some]
      split
      · rename_i h3; have := hs h3
        rw [show -((c.natAbs : Int)) = c by omega]
      · rename_i h3; have := hp h3
        rw [show ((c.natAbs : Int)) = c by omega]
theorem tdiv_bound (x y : Int) (h0 : -1099511627776 < x) (h1 : x < 1099511627776) : -1099511627776 < x.tdiv y ∧ x.tdiv y < 1099511627776 := by
  have := Int.natAbs_tdiv_le_natAbs x y
  omega
theorem b_Do (k : Nat) (op a b : Int) (ha : 0 ≤ a) (ha' : a < 18446744073709551616) (hb : 0 ≤ b) (hb' : b < 18446744073709551616) :
    word_Do.f (k + 4) op a b = some (doP op a b) := by
  have hx := toIntP_range a
  have hy := toIntP_range b
  have j2 : ¬ ((op = 47 ∨ op = 37) ∧ (toIntP b).1 = 0) → (toIntP a).2 = true → (toIntP b).2 = true → isOp op → word_Do.j2 (k + 2) op (toIntP a).1 (toIntP b).1 = some (doP op a b) := by
    intro hz h1 h2 ho
    unfold doP
    rw [if_neg (fun h => h ho), if_neg (by simp [h1, h2]), if_neg hz]
    generalize (toIntP a).1 = x at *
    generalize (toIntP b).1 = y at *
    have := tdiv_bound x y hx.1 hx.2
    simp only [word_Do.j2]
    rcases ho with rfl | rfl | rfl | rfl | rfl | rfl | rfl
    · simp [b_Int, wrap64_id (n := x + y) (by omega) (by omega)]
    · simp [b_Int, wrap64_id (n := x - y) (by omega) (by omega)]
    · simp [b_times k x y hx.1 hx.2 hy.1 hy.2]
    · have : y ≠ 0 := fun h => hz ⟨.inl rfl, h⟩
      simp [this, b_Int, wrap64_id (n := x.tdiv y) (by omega) (by omega)]
    · have : y ≠ 0 := fun h => hz ⟨.inr rfl, h⟩
      simp [this, b_Int]
    · simp [b_Bool]
    · simp [b_Bool]
  have j0 : isOp op → word_Do.j0 (k + 4) op a b = some (doP op a b) := by
    intro ho
    simp only [word_Do.j0]
    rw [b_ToInt a ha ha', b_ToInt b hb hb']
    simp only [Option.bind_some]
    cases h1 : (toIntP a).2 with
    | false => simp [word_Do.j1, doP, ho, h1]
    | true =>
      cases h2 : (toIntP b).2 with
      | false => simp [word_Do.j1, doP, ho, h1, h2]
      | true =>
        by_cases hz : (op = 47 ∨ op = 37) ∧ (toIntP b).1 = 0
        · rcases hz with ⟨h3 | h3, h4⟩ <;> subst h3 <;> simp [isOp, word_Do.j1, doP, h1, h2, h4]
        · have := j2 hz h1 h2 ho
          simp only [Bool.not_true, if_true, word_Do.j1]
          rw [if_neg (by simp)]
          split
          · rename_i h4
            rw [if_neg (fun h => hz ⟨.inl h, h4⟩), if_neg (fun h => hz ⟨.inr h, h4⟩)]; exact this
          · exact this
  unfold word_Do.f
  by_cases ho : isOp op
  · rw [j0 ho]
    rcases ho with rfl | rfl | rfl | rfl | rfl | rfl | rfl <;> simp
  · have : doP op a b = (0, 1) := by unfold doP; rw [if_pos ho]
    rw [this]
    simp only [isOp, not_or] at ho
    simp [ho]
theorem c_Int (n : Int) (w : World) : Calls Try.prog 32 #[.int .i64 n] w fun e w' => e = .returned (.tuple #[.int .u64 (intP n).1, .int .i64 (intP n).2]) ∧ Drawn0 w w' :=
  word_Int.calls n _ _ w (b_Int n)
theorem c_ToInt (x : Int) (w : World) (h0 : 0 ≤ x) (h1 : x < 18446744073709551616) : Calls Try.prog 31 #[.int .u64 x] w fun e w' => e = .returned (.tuple #[.int .i64 (toIntP x).1, .bool (toIntP x).2]) ∧ Drawn0 w w' :=
  word_ToInt.calls x _ _ w (b_ToInt x h0 h1)
theorem c_Do (op a b : Int) (w : World) (ha : 0 ≤ a) (ha' : a < 18446744073709551616) (hb : 0 ≤ b) (hb' : b < 18446744073709551616) :
    Calls Try.prog 17 #[.int .u8 op, .int .u64 a, .int .u64 b] w fun e w' => e = .returned (.tuple #[.int .u64 (doP op a b).1, .int .i64 (doP op a b).2]) ∧ Below w.heap.size w w' :=
  word_Do.calls 4 op a b _ _ w (b_Do 0 op a b ha ha' hb hb')
end Go.Proofs.Ytoofnpecofcjjaa.Pure

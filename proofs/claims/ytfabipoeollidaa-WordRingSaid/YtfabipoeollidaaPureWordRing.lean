/- For any two numbers (modulo MaxInt) sums and products do not hang on the order, what is added is taken away, and a quotient and its rest make the number; no conditions. -/
import Derived.Test.YtfabipoeollidaaPWordRingx2
import Derived.Test.YtfabipoeollidaaWord
namespace Go.Proofs.Ytfabipoeollidaa.Pure
open Go.RowKit Go.Proofs.Ytfabipoeollidaa.PWordRing Go.Proofs.YtfabipoeollidaaW.PrintWords Go.Proofs.YtfabipoeollidaaW.PrintLast
open Go Go.Proofs.Ytfabipoeollidaa.Word Go.Proofs.YtfabipoeollidaaW.PrintMore
set_option linter.unusedSimpArgs false
theorem b_Int (n : Int) : word_Int.f n = some (intP n) := by
  unfold word_Int.f intP
  (repeat' split) <;> first | rfl | (simp only [wrap_u64]; congr 2; omega)
theorem b_ToInt (w : Int) (h0 : 0 ≤ w) (h1 : w < 18446744073709551616) : word_ToInt.f w = some (toIntP w) := by
  unfold word_ToInt.f toIntP
  rw [u64_and7 w h0 h1]
  (repeat' split) <;> rfl
theorem b_Bool (b : Bool) : word_Bool.f b = some (boolP b) := by cases b <;> rfl
theorem b_Mul64 (a b : Int) (ha : 0 ≤ a) (ha' : a < 18446744073709551616) (hb : 0 ≤ b) (hb' : b < 18446744073709551616) :
    bits_Mul64.f a b = some (a * b / 18446744073709551616, a * b % 18446744073709551616) := by
  unfold bits_Mul64.f
  rw [mul_hi a b ha ha' hb hb', wrap_u64 (a * b)]
theorem b_times (k : Nat) (a b : Int) (ha : -1099511627776 < a) (ha' : a < 1099511627776) (hb : -1099511627776 < b) (hb' : b < 1099511627776) :
    word_times.f (k + 1) a b = some (intP (a * b)) := by
  unfold word_times.f
  rw [mx_abs a ha ha', mx_abs b hb hb', wrap_u64, wrap_u64, Int.emod_eq_of_lt (by omega) (by omega), Int.emod_eq_of_lt (by omega) (by omega),
    b_Mul64 _ _ (by omega) (by omega) (by omega) (by omega), abs_mul]
  simp only [Option.bind_some]
  have hm : (a * b).natAbs < 1208925819614629174706176 := by
    rw [Int.natAbs_mul]
    exact Nat.lt_of_le_of_lt (Nat.mul_le_mul (show a.natAbs ≤ 1099511627775 by omega) (show b.natAbs ≤ 1099511627775 by omega)) (by decide)
  have hs : (decide (a < 0) != decide (b < 0)) = true → a * b ≤ 0 := by
    intro h
    by_cases h1 : a < 0
    · have h2 : ¬ b < 0 := by intro h2; simp [h1, h2] at h
      exact Int.mul_nonpos_of_nonpos_of_nonneg (by omega) (by omega)
    · have h2 : b < 0 := by
        by_cases h2 : b < 0
        · exact h2
        · simp [h1, h2] at h
      exact Int.mul_nonpos_of_nonneg_of_nonpos (by omega) (by omega)
  have hp : ¬ (decide (a < 0) != decide (b < 0)) = true → 0 ≤ a * b := by
    intro h
    by_cases h1 : a < 0
    · have h2 : b < 0 := by
        by_cases h2 : b < 0
        · exact h2
        · simp [h1, h2] at h
      exact Int.mul_nonneg_of_nonpos_of_nonpos (by omega) (by omega)
    · have h2 : ¬ b < 0 := by intro h2; simp [h1, h2] at h
      exact Int.mul_nonneg (by omega) (by omega)
  generalize hab : a * b = c at *
  by_cases h1 : ((c.natAbs : Int)) / 18446744073709551616 > 0
  · rw [if_pos h1, intP_no (by omega)]
    simp [word_times.j0]
  · rw [if_neg h1]
    have hl : ((c.natAbs : Int)) % 18446744073709551616 = c.natAbs := by omega
    rw [hl]
    by_cases h2 : ((c.natAbs : Int)) ≥ 1099511627776
    · rw [intP_no (by omega)]
      simp [word_times.j0, h2]
    · simp only [word_times.j0]
      rw [if_neg (by simp [h2]), b_Int, b_Int, wrap64_id (n := (c.natAbs : Int)) (by omega) (by omega), wrap64_id (by omega) (by omega)]
      simp only [Option.bind_some]
      split
      · rename_i h3; have := hs h3
        rw [show -((c.natAbs : Int)) = c by omega]
      · rename_i h3; have := hp h3
        rw [show ((c.natAbs : Int)) = c by omega]
theorem tdiv_bound (x y : Int) (h0 : -1099511627776 < x) (h1 : x < 1099511627776) : -1099511627776 < x.tdiv y ∧ x.tdiv y < 1099511627776 := by
  have := Int.natAbs_tdiv_le_natAbs x y
  omega
theorem b_Do (k : Nat) (op a b : Int) (ha : 0 ≤ a) (ha' : a < 18446744073709551616) (hb : 0 ≤ b) (hb' : b < 18446744073709551616) :
    word_Do.f (k + 4) op a b = some (doP op a b) := by
  have hx := toIntP_range a
  have hy := toIntP_range b
  have j2 : ¬ ((op = 47 ∨ op = 37) ∧ (toIntP b).1 = 0) → (toIntP a).2 = true → (toIntP b).2 = true → isOp op → word_Do.j2 (k + 2) op (toIntP a).1 (toIntP b).1 = some (doP op a b) := by
    intro hz h1 h2 ho
    unfold doP
    rw [if_neg (fun h => h ho), if_neg (by simp [h1, h2]), if_neg hz]
    generalize (toIntP a).1 = x at *
    generalize (toIntP b).1 = y at *
    have := tdiv_bound x y hx.1 hx.2
    simp only [word_Do.j2]
    rcases ho with rfl | rfl | rfl | rfl | rfl | rfl | rfl
    · simp [b_Int, wrap64_id (n := x + y) (by omega) (by omega)]
    · simp [b_Int, wrap64_id (n := x - y) (by omega) (by omega)]
    · simp [b_times k x y hx.1 hx.2 hy.1 hy.2]
    · have : y ≠ 0 := fun h => hz ⟨.inl rfl, h⟩
      simp [this, b_Int, wrap64_id (n := x.tdiv y) (by omega) (by omega)]
    · have : y ≠ 0 := fun h => hz ⟨.inr rfl, h⟩
      simp [this, b_Int]
    · simp [b_Bool]
    · simp [b_Bool]
  have j0 : isOp op → word_Do.j0 (k + 4) op a b = some (doP op a b) := by
    intro ho
    simp only [word_Do.j0]
    rw [b_ToInt a ha ha', b_ToInt b hb hb']
    simp only [Option.bind_some]
    cases h1 : (toIntP a).2 with
    | false => simp [word_Do.j1, doP, ho, h1]
    | true =>
      cases h2 : (toIntP b).2 with
      | false => simp [word_Do.j1, doP, ho, h1, h2]
      | true =>
        by_cases hz : (op = 47 ∨ op = 37) ∧ (toIntP b).1 = 0
        · rcases hz with ⟨h3 | h3, h4⟩ <;> subst h3 <;> simp [isOp, word_Do.j1, doP, h1, h2, h4]
        · have := j2 hz h1 h2 ho
          simp only [Bool.not_true, if_true, word_Do.j1]
          rw [if_neg (by simp)]
          split
          · rename_i h4
            rw [if_neg (fun h => hz ⟨.inl h, h4⟩), if_neg (fun h => hz ⟨.inr h, h4⟩)]; exact this
          · exact this
  unfold word_Do.f
  by_cases ho : isOp op
  · rw [j0 ho]
    rcases ho with rfl | rfl | rfl | rfl | rfl | rfl | rfl <;> simp
  · have : doP op a b = (0, 1) := by unfold doP; rw [if_pos ho]
    rw [this]
    simp only [isOp, not_or] at ho
    simp [ho]
theorem b_shown (k : Nat) : eddywheellaw01_shown.f (k + 4) = some true := by
  have e1 : intP (-1) = (18446744073709551608, 0) := by decide +kernel
  have e2 : intP (-7) = (18446744073709551560, 0) := by decide +kernel
  have e3 : intP 2 = (16, 0) := by decide +kernel
  have e4 : doP 47 18446744073709551560 16 = (18446744073709551592, 0) := by decide +kernel
  have e5 : doP 37 18446744073709551560 16 = (18446744073709551608, 0) := by decide +kernel
  have e6 : toIntP 18446744073709551592 = (-3, true) := by decide +kernel
  have e7 : toIntP 18446744073709551608 = (-1, true) := by decide +kernel
  unfold eddywheellaw01_shown.f
  rw [b_Int, b_Int, b_Int, e1, e2, e3]
  simp only [Option.bind_some]
  rw [b_Do k 47 _ _ (by decide) (by decide) (by decide) (by decide), e4]
  simp only [Option.bind_some]
  rw [b_Do k 37 _ _ (by decide) (by decide) (by decide) (by decide), e5]
  simp only [Option.bind_some]
  rw [b_ToInt _ (by decide) (by decide), b_ToInt _ (by decide) (by decide), e6, e7]
  simp
theorem tmod_lt_y (x y : Int) (h : y ≠ 0) : (x.tmod y).natAbs < y.natAbs := by
  rw [Int.natAbs_tmod]; exact Nat.mod_lt _ (by omega)
theorem WordRing : eddywheellaw01_WordRing.Pure := by
  intro a b _ _
  refine ⟨12, ?_⟩
  unfold eddywheellaw01_WordRing.f
  rw [b_shown 8]
  simp only [Option.bind_some, b_Int]
  have h1 := tmod_M a (show (0 : Int) < 1099511627776 by decide)
  have h2 := tmod_M b (show (0 : Int) < 1099511627776 by decide)
  generalize a.tmod 1099511627776 = x at *
  generalize hy0 : b.tmod 1099511627776 = y at *
  have hx : (intP x).2 = 0 := (intP_ok x).2 h1
  have hy : (intP y).2 = 0 := (intP_ok y).2 h2
  have gx := intP_wf x
  have gy := intP_wf y
  have D : ∀ (k : Nat) (op : Int), word_Do.f (k + 4) op (intP x).1 (intP y).1 = some (doP op (intP x).1 (intP y).1) := fun k op => b_Do k op _ _ gx.1 gx.2 gy.1 gy.2
  have D' : ∀ (k : Nat) (op : Int), word_Do.f (k + 4) op (intP y).1 (intP x).1 = some (doP op (intP y).1 (intP x).1) := fun k op => b_Do k op _ _ gy.1 gy.2 gx.1 gx.2
  rw [if_pos hx, hy]
  simp only [eddywheellaw01_WordRing.j0]
  rw [if_neg (by simp), D 7, D' 7, D 7, D' 7]
  simp only [Option.bind_some]
  rw [do_add hx hy, do_add hy hx, do_mul hx hy, do_mul hy hx, Int.add_comm y x, Int.mul_comm y x, if_pos rfl, if_pos rfl, if_pos rfl]
  have hj2 : eddywheellaw01_WordRing.j2 9 b true (intP x).1 (intP y).1 = some true := by
    simp only [eddywheellaw01_WordRing.j2]
    rw [hy0, D 4, D 4]
    by_cases h0 : y = 0
    · rw [if_pos h0, do_quo0 hx hy h0, do_rem0 hx hy h0]; simp
    · rw [if_neg h0, do_quo hx hy h0, do_rem hx hy h0]
      have hq := tdiv_bound x y h1.1 h1.2
      have hr : -1099511627776 < x.tmod y ∧ x.tmod y < 1099511627776 := by
        have := tmod_lt_y x y h0; omega
      have hq0 : (intP (x.tdiv y)).2 = 0 := (intP_ok _).2 hq
      have hr0 : (intP (x.tmod y)).2 = 0 := (intP_ok _).2 hr
      have e1 : x.tdiv y * y = x - x.tmod y := by have := Int.tmod_def x y; rw [Int.mul_comm] at this; omega
      have hm : (intP (x.tdiv y * y)).2 = 0 := by
        refine (intP_ok _).2 ?_
        rw [e1]
        have e2 : (x - x.tmod y).natAbs ≤ x.natAbs := by
          rw [← e1, Int.natAbs_mul, Int.natAbs_tdiv]
          exact Nat.div_mul_le_self _ _
        omega
      have g1 := intP_wf (x.tdiv y)
      have g2 := intP_wf (x.tdiv y * y)
      have g3 := intP_wf (x.tmod y)
      simp only [Option.bind_some]
      rw [b_Do 4 42 _ _ g1.1 g1.2 gy.1 gy.2, do_mul hq0 hy]
      simp only [Option.bind_some]
      rw [b_Do 4 43 _ _ g2.1 g2.2 g3.1 g3.2, do_add hm hr0]
      simp only [Option.bind_some]
      rw [show x.tdiv y * y + x.tmod y = x by omega]
      simp [hq0, hr0, hm, hx]
  simp only [eddywheellaw01_WordRing.j1]
  rw [if_neg (by simp)]
  by_cases h3 : (intP (x + y)).2 = 0
  · rw [if_pos h3]
    have g := intP_wf (x + y)
    rw [b_Do 6 45 _ _ g.1 g.2 gy.1 gy.2, do_sub h3 hy]
    simp only [Option.bind_some]
    rw [show x + y - y = x by omega, if_pos rfl, if_pos hx]
    exact hj2
  · rw [if_neg h3]; exact hj2
end Go.Proofs.Ytfabipoeollidaa.Pure

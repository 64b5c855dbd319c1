/- For any op and any two words, word.Do answers what the document's reference answers, and the document's examples hold; no conditions. -/
import Derived.Test.YtfabipoeollidaaPWordDoesx3
import Derived.Test.YtfabipoeollidaaWord
namespace Go.Proofs.Ytfabipoeollidaa.Pure
open Go.RowKit Go.Proofs.Ytfabipoeollidaa.PWordDoes Go.Proofs.YtfabipoeollidaaW.PrintWords Go.Proofs.YtfabipoeollidaaW.PrintLast
open Go Go.Proofs.Ytfabipoeollidaa.Word Go.Proofs.YtfabipoeollidaaW.PrintMore
set_option linter.unusedSimpArgs false
theorem b_Int (n : Int) : word_Int.f n = some (intP n) := by
  unfold word_Int.f intP
  (repeat' split) <;> first | rfl | (simp only [wrap_u64]; congr 2; omega)
theorem b_ToInt (w : Int) (h0 : 0 ≤ w) (h1 : w < 18446744073709551616) : word_ToInt.f w = some (toIntP w) := by
  unfold word_ToInt.f toIntP
  rw [u64_and7 w h0 h1]
  (repeat' split) <;> rfl
theorem b_Bool (b : Bool) : word_Bool.f b = some (boolP b) := by cases b <;> rfl
theorem b_Mul64 (a b : Int) (ha : 0 ≤ a) (ha' : a < 18446744073709551616) (hb : 0 ≤ b) (hb' : b < 18446744073709551616) :
    bits_Mul64.f a b = some (a * b / 18446744073709551616, a * b % 18446744073709551616) := by
  unfold bits_Mul64.f
  rw [mul_hi a b ha ha' hb hb', wrap_u64 (a * b)]
theorem b_times (k : Nat) (a b : Int) (ha : -1099511627776 < a) (ha' : a < 1099511627776) (hb : -1099511627776 < b) (hb' : b < 1099511627776) :
    word_times.f (k + 1) a b = some (intP (a * b)) := by
  unfold word_times.f
  rw [mx_abs a ha ha', mx_abs b hb hb', wrap_u64, wrap_u64, Int.emod_eq_of_lt (by omega) (by omega), Int.emod_eq_of_lt (by omega) (by omega),
    b_Mul64 _ _ (by omega) (by omega) (by omega) (by omega), abs_mul]
  simp only [Option.bind_some]
  have hm : (a * b).natAbs < 1208925819614629174706176 := by
    rw [Int.natAbs_mul]
    exact Nat.lt_of_le_of_lt (Nat.mul_le_mul (show a.natAbs ≤ 1099511627775 by omega) (show b.natAbs ≤ 1099511627775 by omega)) (by decide)
  have hs : (decide (a < 0) != decide (b < 0)) = true → a * b ≤ 0 := by
    intro h
    by_cases h1 : a < 0
    · have h2 : ¬ b < 0 := by intro h2; simp [h1, h2] at h
      exact Int.mul_nonpos_of_nonpos_of_nonneg (by omega) (by omega)
    · have h2 : b < 0 := by
        by_cases h2 : b < 0
        · exact h2
        · simp [h1, h2] at h
      exact Int.mul_nonpos_of_nonneg_of_nonpos (by omega) (by omega)
  have hp : ¬ (decide (a < 0) != decide (b < 0)) = true → 0 ≤ a * b := by
    intro h
    by_cases h1 : a < 0
    · have h2 : b < 0 := by
        by_cases h2 : b < 0
        · exact h2
        · simp [h1, h2] at h
      exact Int.mul_nonneg_of_nonpos_of_nonpos (by omega) (by omega)
    · have h2 : ¬ b < 0 := by intro h2; simp [h1, h2] at h
      exact Int.mul_nonneg (by omega) (by omega)
  generalize hab : a * b = c at *
  by_cases h1 : ((c.natAbs : Int)) / 18446744073709551616 > 0
  · rw [if_pos h1, intP_no (by omega)]
    simp [word_times.j0]
  · rw [if_neg h1]
    have hl : ((c.natAbs : Int)) % 18446744073709551616 = c.natAbs := by omega
    rw [hl]
    by_cases h2 : ((c.natAbs : Int)) ≥ 1099511627776
    · rw [intP_no (by omega)]
      simp [word_times.j0, h2]
    · simp only [word_times.j0]
      rw [if_neg (by simp [h2]), b_Int, b_Int, wrap64_id (n := (c.natAbs : Int)) (by omega) (by omega), wrap64_id (by omega) (by omega)]
      simp only [Option.bind_some]
      split
      · rename_i h3; have := hs h3
        rw [show -((c.natAbs : Int)) = c by omega]
      · rename_i h3; have := hp h3
        rw [show ((c.natAbs : Int)) = c by omega]
theorem tdiv_bound (x y : Int) (h0 : -1099511627776 < x) (h1 : x < 1099511627776) : -1099511627776 < x.tdiv y ∧ x.tdiv y < 1099511627776 := by
  have := Int.natAbs_tdiv_le_natAbs x y
  omega
theorem b_Do (k : Nat) (op a b : Int) (ha : 0 ≤ a) (ha' : a < 18446744073709551616) (hb : 0 ≤ b) (hb' : b < 18446744073709551616) :
    word_Do.f (k + 4) op a b = some (doP op a b) := by
  have hx := toIntP_range a
  have hy := toIntP_range b
  have j2 : ¬ ((op = 47 ∨ op = 37) ∧ (toIntP b).1 = 0) → (toIntP a).2 = true → (toIntP b).2 = true → isOp op → word_Do.j2 (k + 2) op (toIntP a).1 (toIntP b).1 = some (doP op a b) := by
    intro hz h1 h2 ho
    unfold doP
    rw [if_neg (fun h => h ho), if_neg (by simp [h1, h2]), if_neg hz]
    generalize (toIntP a).1 = x at *
    generalize (toIntP b).1 = y at *
    have := tdiv_bound x y hx.1 hx.2
    simp only [word_Do.j2]
    rcases ho with rfl | rfl | rfl | rfl | rfl | rfl | rfl
    · simp [b_Int, wrap64_id (n := x + y) (by omega) (by omega)]
    · simp [b_Int, wrap64_id (n := x - y) (by omega) (by omega)]
    · simp [b_times k x y hx.1 hx.2 hy.1 hy.2]
    · have : y ≠ 0 := fun h => hz ⟨.inl rfl, h⟩
      simp [this, b_Int, wrap64_id (n := x.tdiv y) (by omega) (by omega)]
    · have : y ≠ 0 := fun h => hz ⟨.inr rfl, h⟩
      simp [this, b_Int]
    · simp [b_Bool]
    · simp [b_Bool]
  have j0 : isOp op → word_Do.j0 (k + 4) op a b = some (doP op a b) := by
    intro ho
    simp only [word_Do.j0]
    rw [b_ToInt a ha ha', b_ToInt b hb hb']
    simp only [Option.bind_some]
    cases h1 : (toIntP a).2 with
    | false => simp [word_Do.j1, doP, ho, h1]
    | true =>
      cases h2 : (toIntP b).2 with
      | false => simp [word_Do.j1, doP, ho, h1, h2]
      | true =>
        by_cases hz : (op = 47 ∨ op = 37) ∧ (toIntP b).1 = 0
        · rcases hz with ⟨h3 | h3, h4⟩ <;> subst h3 <;> simp [isOp, word_Do.j1, doP, h1, h2, h4]
        · have := j2 hz h1 h2 ho
          simp only [Bool.not_true, if_true, word_Do.j1]
          rw [if_neg (by simp)]
          split
          · rename_i h4
            rw [if_neg (fun h => hz ⟨.inl h, h4⟩), if_neg (fun h => hz ⟨.inr h, h4⟩)]; exact this
          · exact this
  unfold word_Do.f
  by_cases ho : isOp op
  · rw [j0 ho]
    rcases ho with rfl | rfl | rfl | rfl | rfl | rfl | rfl <;> simp
  · have : doP op a b = (0, 1) := by unfold doP; rw [if_pos ho]
    rw [this]
    simp only [isOp, not_or] at ho
    simp [ho]
theorem r_Int (n : Int) : eddywheelref01_Int.f n = some (intP n) := by
  unfold eddywheelref01_Int.f intP
  (repeat' split) <;> first | rfl | (simp only [wrap_u64]; congr 2; omega)
theorem r_Bool (b : Bool) : eddywheelref01_Bool.f b = some (boolP b) := by cases b <;> rfl
theorem r_ToInt (w : Int) (h0 : 0 ≤ w) (h1 : w < 18446744073709551616) : eddywheelref01_ToInt.f w = some (toIntP w) := by
  unfold eddywheelref01_ToInt.f
  rw [r_Int]
  simp only [Option.bind_some]
  have ew : wrap64 w = w ∨ wrap64 w = w - 18446744073709551616 := by unfold wrap64; omega
  have hw : -9223372036854775808 ≤ wrap64 w ∧ wrap64 w < 9223372036854775808 := by unfold wrap64; omega
  have ht : (0 ≤ wrap64 w → (wrap64 w).tdiv 8 = wrap64 w / 8) ∧ (wrap64 w ≤ 0 → (wrap64 w).tdiv 8 = -((-wrap64 w) / 8)) := ⟨fun h => tdiv_ge 8 h, fun h => tdiv_lt 8 h⟩
  have hd : wrap64 ((wrap64 w).tdiv 8) = (wrap64 w).tdiv 8 := wrap64_id (by omega) (by omega)
  rw [hd]
  unfold intP toIntP
  generalize wrap64 w = v at *
  by_cases hm : w % 8 = 0
  · have e : v.tdiv 8 = v / 8 := by omega
    rw [if_pos hm, e]
    by_cases h3 : v / 8 ≤ -1099511627776
    · simp [h3]
    · by_cases h4 : v / 8 ≥ 1099511627776
      · simp [h3, h4]
      · rw [if_neg h3, if_neg h4, if_neg h3, if_neg h4]
        rw [if_pos rfl, if_pos (by simp only; omega)]
  · rw [if_neg hm]
    by_cases h3 : v.tdiv 8 ≤ -1099511627776
    · simp [h3]
    · by_cases h4 : v.tdiv 8 ≥ 1099511627776
      · simp [h3, h4]
      · rw [if_neg h3, if_neg h4, if_pos rfl, if_neg (by simp only; omega)]
theorem r_loop (d : Nat) : ∀ (k : Nat) (a b n x y : Int), 0 ≤ n → n ≤ 1099511627776 → 0 ≤ x → x ≤ 1099511627776 → 0 ≤ y → y < 2 ^ d → y < 9223372036854775808 → d < k →
    eddywheelref01_product.l0 k a b n x y = some (if (decide (a < 0) != decide (b < 0)) = true then - cut (n + x * y) else cut (n + x * y)) := by
  induction d with
  | zero =>
    intro k a b n x y hn hn' hx hx' hy hy' hyy hk
    obtain ⟨k, rfl⟩ : ∃ m, k = m + 1 := ⟨k - 1, by omega⟩
    have : y = 0 := by simp at hy'; omega
    subst this
    have e : cut (n + x * 0) = n := by rw [Int.mul_zero]; unfold cut; split <;> omega
    rw [e]
    simp only [eddywheelref01_product.l0]
    rw [if_neg (by omega), wrap64_id (by omega) (by omega)]
    split <;> rfl
  | succ d ih =>
    intro k a b n x y hn hn' hx hx' hy hy' hyy hk
    obtain ⟨k, rfl⟩ : ∃ m, k = m + 1 := ⟨k - 1, by omega⟩
    simp only [eddywheelref01_product.l0]
    by_cases h0 : y > 0
    · rw [if_pos h0]
      have ht : y.tdiv 2 = y / 2 := tdiv_ge 2 hy
      have hm : y.tmod 2 = y % 2 := tmod_ge 2 hy
      rw [ht, hm, wrap64_id (n := x + x) (by omega) (by omega), wrap64_id (n := n + x) (by omega) (by omega), wrap64_id (n := y / 2) (by omega) (by omega), mn_cut, mn_cut]
      have c1 := cut_range (x + x) (by omega)
      have c2 := cut_range (n + x) (by omega)
      have hp : y / 2 < 2 ^ d := by rw [Int.pow_succ] at hy'; omega
      by_cases h1 : y % 2 = 1
      · rw [if_pos h1, ih k a b _ _ _ c2.1 c2.2 c1.1 c1.2 (by omega) hp (by omega) (by omega), cut_step_odd n x (y / 2) hn hx (by omega)]
        rw [show 2 * (y / 2) + 1 = y by omega]
      · rw [if_neg h1, ih k a b _ _ _ hn hn' c1.1 c1.2 (by omega) hp (by omega) (by omega), cut_step_even n x (y / 2) hn hx (by omega)]
        rw [show 2 * (y / 2) = y by omega]
    · rw [if_neg h0]
      have : y = 0 := by omega
      subst this
      have e : cut (n + x * 0) = n := by rw [Int.mul_zero]; unfold cut; split <;> omega
      rw [e, wrap64_id (by omega) (by omega)]
      split <;> rfl
theorem r_product (k : Nat) (a b : Int) (ha : -1099511627776 < a) (ha' : a < 1099511627776) (hb : -1099511627776 < b) (hb' : b < 1099511627776) :
    eddywheelref01_product.f (k + 43) a b = some (if (decide (a < 0) != decide (b < 0)) = true then - cut (a * b).natAbs else cut (a * b).natAbs) := by
  have key : ∀ x y : Int, x = a.natAbs → y = b.natAbs → eddywheelref01_product.l0 (k + 41) a b 0 x y = some (if (decide (a < 0) != decide (b < 0)) = true then - cut (a * b).natAbs else cut (a * b).natAbs) := by
    rintro x y rfl rfl
    rw [r_loop 40 (k + 41) a b 0 _ _ (by omega) (by omega) (by omega) (by omega) (by omega) (by omega) (by omega) (by omega), abs_mul, Int.zero_add]
  unfold eddywheelref01_product.f
  rw [wrap64_id (n := -a) (by omega) (by omega)]
  by_cases h1 : a < 0
  · rw [if_pos h1]
    simp only [eddywheelref01_product.j0]
    rw [wrap64_id (n := -b) (by omega) (by omega)]
    by_cases h2 : b < 0
    · rw [if_pos h2]; simp only [eddywheelref01_product.j1]; exact key _ _ (by omega) (by omega)
    · rw [if_neg h2]; simp only [eddywheelref01_product.j1]; exact key _ _ (by omega) (by omega)
  · rw [if_neg h1]
    simp only [eddywheelref01_product.j0]
    rw [wrap64_id (n := -b) (by omega) (by omega)]
    by_cases h2 : b < 0
    · rw [if_pos h2]; simp only [eddywheelref01_product.j1]; exact key _ _ (by omega) (by omega)
    · rw [if_neg h2]; simp only [eddywheelref01_product.j1]; exact key _ _ (by omega) (by omega)
theorem r_mul (a b : Int) : intP (if (decide (a < 0) != decide (b < 0)) = true then - cut (a * b).natAbs else cut (a * b).natAbs) = intP (a * b) := by
  have hs : (decide (a < 0) != decide (b < 0)) = true → a * b ≤ 0 := by
    intro h
    by_cases h1 : a < 0
    · have h2 : ¬ b < 0 := by intro h2; simp [h1, h2] at h
      exact Int.mul_nonpos_of_nonpos_of_nonneg (by omega) (by omega)
    · have h2 : b < 0 := by
        by_cases h2 : b < 0
        · exact h2
        · simp [h1, h2] at h
      exact Int.mul_nonpos_of_nonneg_of_nonpos (by omega) (by omega)
  have hp : ¬ (decide (a < 0) != decide (b < 0)) = true → 0 ≤ a * b := by
    intro h
    by_cases h1 : a < 0
    · have h2 : b < 0 := by
        by_cases h2 : b < 0
        · exact h2
        · simp [h1, h2] at h
      exact Int.mul_nonneg_of_nonpos_of_nonpos (by omega) (by omega)
    · have h2 : ¬ b < 0 := by intro h2; simp [h1, h2] at h
      exact Int.mul_nonneg (by omega) (by omega)
  generalize a * b = c at *
  split
  · rename_i h; have := hs h
    unfold cut; split
    · rw [show -((c.natAbs : Int)) = c by omega]
    · rw [intP_no (by omega), intP_no (by omega)]
  · rename_i h; have := hp h
    unfold cut; split
    · rw [show ((c.natAbs : Int)) = c by omega]
    · rw [intP_no (by omega), intP_no (by omega)]
theorem r_Do (k : Nat) (op a b : Int) (ha : 0 ≤ a) (ha' : a < 18446744073709551616) (hb : 0 ≤ b) (hb' : b < 18446744073709551616) :
    eddywheelref01_Do.f (k + 46) op a b = some (doP op a b) := by
  have hx := toIntP_range a
  have hy := toIntP_range b
  have j2 : ¬ ((op = 47 ∨ op = 37) ∧ (toIntP b).1 = 0) → (toIntP a).2 = true → (toIntP b).2 = true → isOp op → eddywheelref01_Do.j2 (k + 44) op (toIntP a).1 (toIntP b).1 false = some (doP op a b) := by
    intro hz h1 h2 ho
    unfold doP
    rw [if_neg (fun h => h ho), if_neg (by simp [h1, h2]), if_neg hz]
    generalize (toIntP a).1 = x at *
    generalize (toIntP b).1 = y at *
    have := tdiv_bound x y hx.1 hx.2
    simp only [eddywheelref01_Do.j2]
    rcases ho with rfl | rfl | rfl | rfl | rfl | rfl | rfl
    · simp [r_Int, wrap64_id (n := x + y) (by omega) (by omega)]
    · simp [r_Int, wrap64_id (n := x - y) (by omega) (by omega)]
    · rw [if_neg (by simp), if_neg (by decide), if_neg (by decide), if_pos rfl, r_product k x y hx.1 hx.2 hy.1 hy.2]
      simp only [Option.bind_some, r_Int, r_mul]
      simp
    · have : y ≠ 0 := fun h => hz ⟨.inl rfl, h⟩
      simp [this, r_Int, wrap64_id (n := x.tdiv y) (by omega) (by omega)]
    · have hn : y ≠ 0 := fun h => hz ⟨.inr rfl, h⟩
      have e : x - x.tdiv y * y = x.tmod y := by rw [Int.tmod_def, Int.mul_comm]
      have hb : -1099511627776 < x.tmod y ∧ x.tmod y < 1099511627776 := by
        have := Int.natAbs_tmod x y
        have := Nat.mod_le x.natAbs y.natAbs
        omega
      have e2 : x.tdiv y * y = x - x.tmod y := by omega
      simp [hn, r_Int, wrap64_id (n := x.tdiv y) (by omega) (by omega)]
      rw [e2, wrap64_id (n := x - x.tmod y) (by omega) (by omega), show x - (x - x.tmod y) = x.tmod y by omega, wrap64_id (by omega) (by omega)]
    · simp [r_Bool]
    · simp [r_Bool]
  have j0 : isOp op → eddywheelref01_Do.j0 (k + 46) op a b false = some (doP op a b) := by
    intro ho
    simp only [eddywheelref01_Do.j0]
    rw [r_ToInt a ha ha', r_ToInt b hb hb']
    simp only [Option.bind_some]
    cases h1 : (toIntP a).2 with
    | false => simp [eddywheelref01_Do.j1, doP, ho, h1]
    | true =>
      cases h2 : (toIntP b).2 with
      | false => simp [eddywheelref01_Do.j1, doP, ho, h1, h2]
      | true =>
        by_cases hz : (op = 47 ∨ op = 37) ∧ (toIntP b).1 = 0
        · rcases hz with ⟨h3 | h3, h4⟩ <;> subst h3 <;> simp [isOp, eddywheelref01_Do.j1, eddywheelref01_Do.j2, doP, h1, h2, h4]
        · have := j2 hz h1 h2 ho
          simp only [Bool.not_true, if_true, eddywheelref01_Do.j1]
          rw [if_neg (by simp), if_neg (by simp)]
          split
          · rename_i h4
            rw [show ((toIntP b).1 == 0) = false by simpa using fun h => hz ⟨.inl h4, h⟩]; exact this
          · split
            · rename_i h4
              rw [show ((toIntP b).1 == 0) = false by simpa using fun h => hz ⟨.inr h4, h⟩]; exact this
            · exact this
  unfold eddywheelref01_Do.f
  by_cases ho : isOp op
  · rw [j0 ho]
    rcases ho with rfl | rfl | rfl | rfl | rfl | rfl | rfl <;> simp
    have := j0 (by simp [isOp]); simpa using this
  · have : doP op a b = (0, 1) := by unfold doP; rw [if_pos ho]
    rw [this]
    simp only [isOp, not_or] at ho
    simp [ho, eddywheelref01_Do.j0]
theorem b_shown (k : Nat) : eddywheellaw01_shown.f (k + 4) = some true := by
  have e1 : intP (-1) = (18446744073709551608, 0) := by decide +kernel
  have e2 : intP (-7) = (18446744073709551560, 0) := by decide +kernel
  have e3 : intP 2 = (16, 0) := by decide +kernel
  have e4 : doP 47 18446744073709551560 16 = (18446744073709551592, 0) := by decide +kernel
  have e5 : doP 37 18446744073709551560 16 = (18446744073709551608, 0) := by decide +kernel
  have e6 : toIntP 18446744073709551592 = (-3, true) := by decide +kernel
  have e7 : toIntP 18446744073709551608 = (-1, true) := by decide +kernel
  unfold eddywheellaw01_shown.f
  rw [b_Int, b_Int, b_Int, e1, e2, e3]
  simp only [Option.bind_some]
  rw [b_Do k 47 _ _ (by decide) (by decide) (by decide) (by decide), e4]
  simp only [Option.bind_some]
  rw [b_Do k 37 _ _ (by decide) (by decide) (by decide) (by decide), e5]
  simp only [Option.bind_some]
  rw [b_ToInt _ (by decide) (by decide), b_ToInt _ (by decide) (by decide), e6, e7]
  simp
theorem WordDoes : eddywheellaw01_WordDoes.Pure := by
  intro op a b _ ha hb
  obtain ⟨ha, ha'⟩ := wf_u64 ha
  obtain ⟨hb, hb'⟩ := wf_u64 hb
  refine ⟨46, ?_⟩
  unfold eddywheellaw01_WordDoes.f
  rw [b_Do 42 op a b ha ha' hb hb', r_Do 0 op a b ha ha' hb hb', b_shown 42]
  simp
end Go.Proofs.Ytfabipoeollidaa.Pure

import Derived.Test.YtoofnpecofcjjaaPPrimPlaysx3
import Derived.Test.YtoofnpecofcjjaaWordDo
namespace Go.Proofs.Ytoofnpecofcjjaa.Pure
open Go Go.RowKit Go.Proofs.Ytoofnpecofcjjaa.PPrimPlays Go.Proofs.YtoofnpecofcjjaaW.PrintWords Go.Proofs.YtoofnpecofcjjaaW.PrintLast Go.Proofs.YtoofnpecofcjjaaW.PrintMore Go.Proofs.Ytoofnpecofcjjaa.Word
theorem mn_cut (n : Int) : mn n 1099511627776 = cut n := by unfold mn cut; (repeat' split) <;> omega
theorem r_Int (n : Int) : eddywheelref01_Int.f n = some (intP n) := by
  unfold eddywheelref01_Int.f intP
  (repeat' split) <;> first | rfl | (simp only [wrap_u64]; congr 2; omega)
theorem r_Bool (b : Bool) : eddywheelref01_Bool.f b = some (boolP b) := by cases b <;> rfl
theorem r_ToInt (w : Int) (h0 : 0 ≤ w) (h1 : w < 18446744073709551616) : eddywheelref01_ToInt.f w = some (toIntP w) := by
  unfold eddywheelref01_ToInt.f
  rw [r_Int]
  simp only [Option.bind_some]
  have ew : wrap64 w = w ∨ wrap64 w = w - 18446744073709551616 := by unfold wrap64; omega
  have hw : -9223372036854775808 ≤ wrap64 w ∧ wrap64 w < 9223372036854775808 := by unfold wrap64; omega
  have ht : (0 ≤ wrap64 w → (wrap64 w).tdiv 8 = wrap64 w / 8) ∧ (wrap64 w ≤ 0 → (wrap64 w).tdiv 8 = -((-wrap64 w) / 8)) := ⟨fun h => tdiv_ge 8 h, fun h => tdiv_lt 8 h⟩
  have hd : wrap64 ((wrap64 w).tdiv 8) = (wrap64 w).tdiv 8 := wrap64_id (by omega) (by omega)
  rw [hd]
  unfold intP toIntP
  generalize wrap64 w = v at *
  by_cases hm : w % 8 = 0
  · have e : v.tdiv 8 = v / 8 := by omega
    rw [if_pos hm, e]
    by_cases h3 : v / 8 ≤ -1099511627776
    · simp [h3]
    · by_cases h4 : v / 8 ≥ 1099511627776
      · simp [h3, h4]
      · rw [if_neg h3, if_neg h4, if_neg h3, if_neg h4]
        rw [if_pos rfl, if_pos (by simp only; omega)]
  · rw [if_neg hm]
    by_cases h3 : v.tdiv 8 ≤ -1099511627776
    · simp [h3]
    · by_cases h4 : v.tdiv 8 ≥ 1099511627776
      · simp [h3, h4]
      · rw [if_neg h3, if_neg h4, if_pos rfl, if_neg (by simp only; omega)]
theorem r_loop (d : Nat) : ∀ (k : Nat) (a b n x y : Int), 0 ≤ n → n ≤ 1099511627776 → 0 ≤ x → x ≤ 1099511627776 → 0 ≤ y → y < 2 ^ d → y < 9223372036854775808 → d < k →
    eddywheelref01_product.l0 k a b n x y = some (if (decide (a < 0) != decide (b < 0)) = true then - cut (n + x * y) else cut (n + x * y)) := by
  induction d with
  | zero =>
    intro k a b n x y hn hn' hx hx' hy hy' hyy hk
    obtain ⟨k, rfl⟩ : ∃ m, k = m + 1 := ⟨k - 1, by omega⟩
    have : y = 0 := by simp at hy'; omega
    subst this
    have e : cut (n + x * 0) = n := by rw [Int.mul_zero]; unfold cut; split <;> omega
    rw [e]
    simp only [eddywheelref01_product.l0]
    rw [if_neg (by omega), wrap64_id (by omega) (by omega)]
    split <;> rfl
  | succ d ih =>
    intro k a b n x y hn hn' hx hx' hy hy' hyy hk
    obtain ⟨k, rfl⟩ : ∃ m, k = m + 1 := ⟨k - 1, by omega⟩
    simp only [eddywheelref01_product.l0]
    by_cases h0 : y > 0
    · rw [if_pos h0]
      have ht : y.tdiv 2 = y / 2 := tdiv_ge 2 hy
      have hm : y.tmod 2 = y % 2 := tmod_ge 2 hy
      rw [ht, hm, wrap64_id (n := x + x) (by omega) (by omega), wrap64_id (n := n + x) (by omega) (by omega), wrap64_id (n := y / 2) (by omega) (by omega), mn_cut, mn_cut]
      have c1 := cut_range (x + x) (by omega)
      have c2 := cut_range (n + x) (by omega)
      have hp : y / 2 < 2 ^ d := by rw [Int.pow_succ] at hy'; omega
      by_cases h1 : y % 2 = 1
      · rw [if_pos h1, ih k a b _ _ _ c2.1 c2.2 c1.1 c1.2 (by omega) hp (by omega) (by omega), cut_step_odd n x (y / 2) hn hx (by omega)]
        rw [show 2 * (y / 2) + 1 = y by omega]
      · rw [if_neg h1, ih k a b _ _ _ hn hn' c1.1 c1.2 (by omega) hp (by omega) (by omega), cut_step_even n x (y / 2) hn hx (by omega)]
        rw [show 2 * (y / 2) = y by omega]
    · rw [if_neg h0]
      have : y = 0 := by omega
      subst this
      have e : cut (n + x * 0) = n := by rw [Int.mul_zero]; unfold cut; split <;> omega
      rw [e, wrap64_id (by omega) (by omega)]
      split <;> rfl
theorem r_product (k : Nat) (a b : Int) (ha : -1099511627776 < a) (ha' : a < 1099511627776) (hb : -1099511627776 < b) (hb' : b < 1099511627776) :
    eddywheelref01_product.f (k + 43) a b = some (if (decide (a < 0) != decide (b < 0)) = true then - cut (a * b).natAbs else cut (a * b).natAbs) := by
  have key : ∀ x y : Int, x = a.natAbs → y = b.natAbs → eddywheelref01_product.l0 (k + 41) a b 0 x y = some (if (decide (a < 0) != decide (b < 0)) = true then - cut (a * b).natAbs else cut (a * b).natAbs) := by
    rintro x y rfl rfl
    rw [r_loop 40 (k + 41) a b 0 _ _ (by omega) (by omega) (by omega) (by omega) (by omega) (by omega) (by omega) (by omega), abs_mul, Int.zero_add]
  unfold eddywheelref01_product.f
  rw [wrap64_id (n := -a) (by omega) (by omega)]
  by_cases h1 : a < 0
  · rw [if_pos h1]
    simp only [eddywheelref01_product.j0]
    rw [wrap64_id (n := -b) (by omega) (by omega)]
    by_cases h2 : b < 0
    · rw [if_pos h2]; simp only [eddywheelref01_product.j1]; exact key _ _ (by omega) (by omega)
    · rw [if_neg h2]; simp only [eddywheelref01_product.j1]; exact key _ _ (by omega) (by omega)
  · rw [if_neg h1]
    simp only [eddywheelref01_product.j0]
    rw [wrap64_id (n := -b) (by omega) (by omega)]
    by_cases h2 : b < 0
    · rw [if_pos h2]; simp only [eddywheelref01_product.j1]; exact key _ _ (by omega) (by omega)
    · rw [if_neg h2]; simp only [eddywheelref01_product.j1]; exact key _ _ (by omega) (by omega)
theorem r_mul (a b : Int) : intP (if (decide (a < 0) != decide (b < 0)) = true then - cut (a * b).natAbs else cut (a * b).natAbs) = intP (a * b) := by
  have hs : (decide (a < 0) != decide (b < 0)) = true → a * b ≤ 0 := by
    intro h
    by_cases h1 : a < 0
    · have h2 : ¬ b < 0 := by intro h2; simp [h1, h2] at h
      exact Int.mul_nonpos_of_nonpos_of_nonneg (by omega) (by omega)
    · have h2 : b < 0 := by
        by_cases h2 : b < 0
        · exact h2
        · simp [h1, h2] at h
      exact Int.mul_nonpos_of_nonneg_of_nonpos (by omega) (by omega)
  have hp : ¬ (decide (a < 0) != decide (b < 0)) = true → 0 ≤ a * b := by
    intro h
    by_cases h1 : a < 0
    · have h2 : b < 0 := by
        by_cases h2 : b < 0
        · exact h2
        · simp [h1, h2] at h
      exact Int.mul_nonneg_of_nonpos_of_nonpos (by omega) (by omega)
    · have h2 : ¬ b < 0 := by intro h2; simp [h1, h2] at h
      exact Int.mul_nonneg (by omega) (by omega)
  generalize a * b = c at *
  split
  · rename_i h; have := hs h
    unfold cut; split
    · rw [show -((c.natAbs : Int)) = c by omega]
    · rw [intP_no (by omega), intP_no (by omega)]
  · rename_i h; have := hp h
    unfold cut; split
    · rw [show ((c.natAbs : Int)) = c by omega]
    · rw [intP_no (by omega), intP_no (by omega)]
theorem r_Do (k : Nat) (op a b : Int) (ha : 0 ≤ a) (ha' : a < 18446744073709551616) (hb : 0 ≤ b) (hb' : b < 18446744073709551616) :
    eddywheelref01_Do.f (k + 46) op a b = some (doP op a b) := by
  have hx := toIntP_range a
  have hy := toIntP_range b
  have j2 : ¬ ((op = 47 ∨ op = 37) ∧ (toIntP b).1 = 0) → (toIntP a).2 = true → (toIntP b).2 = true → isOp op → eddywheelref01_Do.j2 (k + 44) op (toIntP a).1 (toIntP b).1 false = some (doP op a b) := by
    intro hz h1 h2 ho
    unfold doP
    rw [if_neg (fun h => h ho), if_neg (by simp [h1, h2]), if_neg hz]
    generalize (toIntP a).1 = x at *
    generalize (toIntP b).1 = y at *
    have := tdiv_bound x y hx.1 hx.2
    simp only [eddywheelref01_Do.j2]
    rcases ho with rfl | rfl | rfl | rfl | rfl | rfl | rfl
    · simp [r_Int, wrap64_id (n := x + y) (by omega) (by omega)]
    · simp [r_Int, wrap64_id (n := x - y) (by omega) (by omega)]
    · rw [if_neg (by simp), if_neg (by decide), if_neg (by decide), if_pos rfl, r_product k x y hx.1 hx.2 hy.1 hy.2]
      simp only [Option.bind_some, r_Int, r_mul]
      simp
    · have : y ≠ 0 := fun h => hz ⟨.inl rfl, h⟩
      simp [this, r_Int, wrap64_id (n := x.tdiv y) (by omega) (by omega)]
    · have hn : y ≠ 0 := fun h => hz ⟨.inr rfl, h⟩
      have e : x - x.tdiv y * y = x.tmod y := by rw [Int.tmod_def, Int.mul_comm]
      have hb : -1099511627776 < x.tmod y ∧ x.tmod y < 1099511627776 := by
        have := Int.natAbs_tmod x y
        have := Nat.mod_le x.natAbs y.natAbs
        omega
      have e2 : x.tdiv y * y = x - x.tmod y := by omega
      simp [hn, r_Int, wrap64_id (n := x.tdiv y) (by omega) (by omega)]
      rw [e2, wrap64_id (n := x - x.tmod y) (by omega) (by omega), show x - (x - x.tmod y) = x.tmod y by omega, wrap64_id (by omega) (by omega)]
    · simp [r_Bool]
    · simp [r_Bool]
  have j0 : isOp op → eddywheelref01_Do.j0 (k + 46) op a b false = some (doP op a b) := by
    intro ho
    simp only [eddywheelref01_Do.j0]
    rw [r_ToInt a ha ha', r_ToInt b hb hb']
    simp only [Option.bind_some]
    cases h1 : (toIntP a).2 with
    | false => simp [eddywheelref01_Do.j1, doP, ho, h1]
    | true =>
      cases h2 : (toIntP b).2 with
      | false => simp [eddywheelref01_Do.j1, doP, ho, h1, h2]
      | true =>
        by_cases hz : (op = 47 ∨ op = 37) ∧ (toIntP b).1 = 0
        · rcases hz with ⟨h3 | h3, h4⟩ <;> subst h3 <;> simp [isOp, eddywheelref01_Do.j1, eddywheelref01_Do.j2, doP, h1, h2, h4]
        · have := j2 hz h1 h2 ho
          simp only [Bool.not_true, if_true, eddywheelref01_Do.j1]
          rw [if_neg (by simp), if_neg (by simp)]
          split
          · rename_i h4
            rw [show ((toIntP b).1 == 0) = false by simpa using fun h => hz ⟨.inl h4, h⟩]; exact this
          · split
            · rename_i h4
              rw [show ((toIntP b).1 == 0) = false by simpa using fun h => hz ⟨.inr h4, h⟩]; exact this
            · exact this
  unfold eddywheelref01_Do.f
  by_cases ho : isOp op
  · rw [j0 ho]
    rcases ho with rfl | rfl | rfl | rfl | rfl | rfl | rfl <;> simp
    have := j0 (by simp [isOp]); simpa using this
  · have : doP op a b = (0, 1) := by unfold doP; rw [if_pos ho]
    rw [this]
    simp only [isOp, not_or] at ho
    simp [ho, eddywheelref01_Do.j0]
theorem cr_ToInt (x : Int) (w : World) (h0 : 0 ≤ x) (h1 : x < 18446744073709551616) : Calls Try.prog 27 #[.int .u64 x] w fun e w' => e = .returned (.tuple #[.int .i64 (toIntP x).1, .bool (toIntP x).2]) ∧ Drawn0 w w' :=
  eddywheelref01_ToInt.calls x _ _ w (r_ToInt x h0 h1)
theorem cr_Do (op a b : Int) (w : World) (ha : 0 ≤ a) (ha' : a < 18446744073709551616) (hb : 0 ≤ b) (hb' : b < 18446744073709551616) :
    Calls Try.prog 24 #[.int .u8 op, .int .u64 a, .int .u64 b] w fun e w' => e = .returned (.tuple #[.int .u64 (doP op a b).1, .int .i64 (doP op a b).2]) ∧ Below w.heap.size w w' :=
  eddywheelref01_Do.calls 46 op a b _ _ w (r_Do 0 op a b ha ha' hb hb')
end Go.Proofs.Ytoofnpecofcjjaa.Pure

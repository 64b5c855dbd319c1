/- The walk of WordSigns: for any two numbers the law answers true; no conditions. -/
import Derived.Test.YtfabipoeollidaaPWordSignsx2
import Derived.Test.YtfabipoeollidaaWord
import Derived.Lib.Hide
namespace Go.Proofs.Ytfabipoeollidaa.Signs
open Go Go.RowKit Go.Proofs.Ytfabipoeollidaa.PWordSigns Go.Proofs.YtfabipoeollidaaW.PrintWords Go.Proofs.YtfabipoeollidaaW.PrintLast Go.Proofs.Ytfabipoeollidaa.Word
open Go Go.Proofs.Ytfabipoeollidaa.Word Go.Proofs.YtfabipoeollidaaW.PrintMore
set_option linter.unusedSimpArgs false
theorem b_Int (n : Int) : word_Int.f n = some (intP n) := by
  unfold word_Int.f intP
  (repeat' split) <;> first | rfl | (simp only [wrap_u64]; congr 2; omega)
theorem b_ToInt (w : Int) (h0 : 0 ≤ w) (h1 : w < 18446744073709551616) : word_ToInt.f w = some (toIntP w) := by
  unfold word_ToInt.f toIntP
  rw [u64_and7 w h0 h1]
  (repeat' split) <;> rfl
theorem b_Bool (b : Bool) : word_Bool.f b = some (boolP b) := by cases b <;> rfl
theorem b_Mul64 (a b : Int) (ha : 0 ≤ a) (ha' : a < 18446744073709551616) (hb : 0 ≤ b) (hb' : b < 18446744073709551616) :
    bits_Mul64.f a b = some (a * b / 18446744073709551616, a * b % 18446744073709551616) := by
  unfold bits_Mul64.f
  rw [mul_hi a b ha ha' hb hb', wrap_u64 (a * b)]
theorem b_times (k : Nat) (a b : Int) (ha : -1099511627776 < a) (ha' : a < 1099511627776) (hb : -1099511627776 < b) (hb' : b < 1099511627776) :
    word_times.f (k + 1) a b = some (intP (a * b)) := by
  unfold word_times.f
  rw [mx_abs a ha ha', mx_abs b hb hb', wrap_u64, wrap_u64, Int.emod_eq_of_lt (by omega) (by omega), Int.emod_eq_of_lt (by omega) (by omega),
    b_Mul64 _ _ (by omega) (by omega) (by omega) (by omega), abs_mul]
  simp only [Option.bind_some]
  have hm : (a * b).natAbs < 1208925819614629174706176 := by
    rw [Int.natAbs_mul]
    exact Nat.lt_of_le_of_lt (Nat.mul_le_mul (show a.natAbs ≤ 1099511627775 by omega) (show b.natAbs ≤ 1099511627775 by omega)) (by decide)
  have hs : (decide (a < 0) != decide (b < 0)) = true → a * b ≤ 0 := by
    intro h
    by_cases h1 : a < 0
    · have h2 : ¬ b < 0 := by intro h2; simp [h1, h2] at h
      exact Int.mul_nonpos_of_nonpos_of_nonneg (by omega) (by omega)
    · have h2 : b < 0 := by
        by_cases h2 : b < 0
        · exact h2
        · simp [h1, h2] at h
      exact Int.mul_nonpos_of_nonneg_of_nonpos (by omega) (by omega)
  have hp : ¬ (decide (a < 0) != decide (b < 0)) = true → 0 ≤ a * b := by
    intro h
    by_cases h1 : a < 0
    · have h2 : b < 0 := by
        by_cases h2 : b < 0
        · exact h2
        · simp [h1, h2] at h
      exact Int.mul_nonneg_of_nonpos_of_nonpos (by omega) (by omega)
    · have h2 : ¬ b < 0 := by intro h2; simp [h1, h2] at h
      exact Int.mul_nonneg (by omega) (by omega)
  generalize hab : a * b = c at *
  by_cases h1 : ((c.natAbs : Int)) / 18446744073709551616 > 0
  · rw [if_pos h1, intP_no (by omega)]
    simp [word_times.j0]
  · rw [if_neg h1]
    have hl : ((c.natAbs : Int)) % 18446744073709551616 = c.natAbs := by omega
    rw [hl]
    by_cases h2 : ((c.natAbs : Int)) ≥ 1099511627776
    · rw [intP_no (by omega)]
      simp [word_times.j0, h2]
    · simp only [word_times.j0]
      rw [if_neg (by simp [h2]), b_Int, b_Int, wrap64_id (n := (c.natAbs : Int)) (by omega) (by omega), wrap64_id (by omega) (by omega)]
      simp only [Option.bind_some]
      split
      · rename_i h3; have := hs h3
        rw [show -((c.natAbs : Int)) = c by omega]
      · rename_i h3; have := hp h3
        rw [show ((c.natAbs : Int)) = c by omega]
theorem tdiv_bound (x y : Int) (h0 : -1099511627776 < x) (h1 : x < 1099511627776) : -1099511627776 < x.tdiv y ∧ x.tdiv y < 1099511627776 := by
  have := Int.natAbs_tdiv_le_natAbs x y
  omega
theorem b_Do (k : Nat) (op a b : Int) (ha : 0 ≤ a) (ha' : a < 18446744073709551616) (hb : 0 ≤ b) (hb' : b < 18446744073709551616) :
    word_Do.f (k + 4) op a b = some (doP op a b) := by
  have hx := toIntP_range a
  have hy := toIntP_range b
  have j2 : ¬ ((op = 47 ∨ op = 37) ∧ (toIntP b).1 = 0) → (toIntP a).2 = true → (toIntP b).2 = true → isOp op → word_Do.j2 (k + 2) op (toIntP a).1 (toIntP b).1 = some (doP op a b) := by
    intro hz h1 h2 ho
    unfold doP
    rw [if_neg (fun h => h ho), if_neg (by simp [h1, h2]), if_neg hz]
    generalize (toIntP a).1 = x at *
    generalize (toIntP b).1 = y at *
    have := tdiv_bound x y hx.1 hx.2
    simp only [word_Do.j2]
    rcases ho with rfl | rfl | rfl | rfl | rfl | rfl | rfl
    · simp [b_Int, wrap64_id (n := x + y) (by omega) (by omega)]
    · simp [b_Int, wrap64_id (n := x - y) (by omega) (by omega)]
    · simp [b_times k x y hx.1 hx.2 hy.1 hy.2]
    · have : y ≠ 0 := fun h => hz ⟨.inl rfl, h⟩
      simp [this, b_Int, wrap64_id (n := x.tdiv y) (by omega) (by omega)]
    · have : y ≠ 0 := fun h => hz ⟨.inr rfl, h⟩
      simp [this, b_Int]
    · simp [b_Bool]
    · simp [b_Bool]
  have j0 : isOp op → word_Do.j0 (k + 4) op a b = some (doP op a b) := by
    intro ho
    simp only [word_Do.j0]
    rw [b_ToInt a ha ha', b_ToInt b hb hb']
    simp only [Option.bind_some]
    cases h1 : (toIntP a).2 with
    | false => simp [word_Do.j1, doP, ho, h1]
    | true =>
      cases h2 : (toIntP b).2 with
      | false => simp [word_Do.j1, doP, ho, h1, h2]
      | true =>
        by_cases hz : (op = 47 ∨ op = 37) ∧ (toIntP b).1 = 0
        · rcases hz with ⟨h3 | h3, h4⟩ <;> subst h3 <;> simp [isOp, word_Do.j1, doP, h1, h2, h4]
        · have := j2 hz h1 h2 ho
          simp only [Bool.not_true, if_true, word_Do.j1]
          rw [if_neg (by simp)]
          split
          · rename_i h4
            rw [if_neg (fun h => hz ⟨.inl h, h4⟩), if_neg (fun h => hz ⟨.inr h, h4⟩)]; exact this
          · exact this
  unfold word_Do.f
  by_cases ho : isOp op
  · rw [j0 ho]
    rcases ho with rfl | rfl | rfl | rfl | rfl | rfl | rfl <;> simp
  · have : doP op a b = (0, 1) := by unfold doP; rw [if_pos ho]
    rw [this]
    simp only [isOp, not_or] at ho
    simp [ho]
theorem b_shown (k : Nat) : eddywheellaw01_shown.f (k + 4) = some true := by
  have e1 : intP (-1) = (18446744073709551608, 0) := by decide +kernel
  have e2 : intP (-7) = (18446744073709551560, 0) := by decide +kernel
  have e3 : intP 2 = (16, 0) := by decide +kernel
  have e4 : doP 47 18446744073709551560 16 = (18446744073709551592, 0) := by decide +kernel
  have e5 : doP 37 18446744073709551560 16 = (18446744073709551608, 0) := by decide +kernel
  have e6 : toIntP 18446744073709551592 = (-3, true) := by decide +kernel
  have e7 : toIntP 18446744073709551608 = (-1, true) := by decide +kernel
  unfold eddywheellaw01_shown.f
  rw [b_Int, b_Int, b_Int, e1, e2, e3]
  simp only [Option.bind_some]
  rw [b_Do k 47 _ _ (by decide) (by decide) (by decide) (by decide), e4]
  simp only [Option.bind_some]
  rw [b_Do k 37 _ _ (by decide) (by decide) (by decide) (by decide), e5]
  simp only [Option.bind_some]
  rw [b_ToInt _ (by decide) (by decide), b_ToInt _ (by decide) (by decide), e6, e7]
  simp
theorem c_Int (n : Int) (w : World) : Calls Try.prog 14 #[.int .i64 n] w fun e w' => e = .returned (.tuple #[.int .u64 (intP n).1, .int .i64 (intP n).2]) ∧ Drawn0 w w' :=
  word_Int.calls n _ _ w (b_Int n)
theorem c_ToInt (x : Int) (w : World) (h0 : 0 ≤ x) (h1 : x < 18446744073709551616) : Calls Try.prog 15 #[.int .u64 x] w fun e w' => e = .returned (.tuple #[.int .i64 (toIntP x).1, .bool (toIntP x).2]) ∧ Drawn0 w w' :=
  word_ToInt.calls x _ _ w (b_ToInt x h0 h1)
theorem c_Do (op a b : Int) (w : World) (ha : 0 ≤ a) (ha' : a < 18446744073709551616) (hb : 0 ≤ b) (hb' : b < 18446744073709551616) :
    Calls Try.prog 11 #[.int .u8 op, .int .u64 a, .int .u64 b] w fun e w' => e = .returned (.tuple #[.int .u64 (doP op a b).1, .int .i64 (doP op a b).2]) ∧ Below w.heap.size w w' :=
  word_Do.calls 4 op a b _ _ w (b_Do 0 op a b ha ha' hb hb')
attribute [local go_sem] max2_int min2_int max_two min_two
def sz (i : Int) : Int := i.natAbs
theorem size_calls (i : Int) (w : World) (h0 : -9223372036854775808 < i) (h1 : i < 9223372036854775808) : Calls Try.prog 16 #[.int .i64 i] w fun e w' => e = .returned (.int .i64 (sz i)) ∧ w = w' := by
  go_enter Try.func16, Try.ntmps16
  go_wp2
  all_goals
    go_ret
    refine ⟨?_, rfl⟩
    simp [sz]
    first | omega | (unfold wrap64 at *; omega)
theorem sizes (m n : Int) (hn : n ≠ 0) :
    sz (m.tdiv n) = (sz m).tdiv (sz n) ∧ sz (m.tmod n) < sz n ∧ (m.tmod n = 0 ∨ (m.tmod n < 0 ↔ m < 0)) ∧
    (m.tdiv n = 0 ∨ (m.tdiv n < 0 ↔ ¬ (m < 0 ↔ n < 0))) := by
  unfold sz
  refine ⟨?_, ?_, ?_, ?_⟩
  · rw [Int.natAbs_tdiv]; rfl
  · have := Int.natAbs_tmod m n
    have := Nat.mod_lt m.natAbs (show n.natAbs > 0 by omega)
    omega
  · by_cases h : 0 ≤ m
    · have := Int.tmod_nonneg n h; omega
    · by_cases h0 : m.tmod n = 0
      · exact .inl h0
      · right
        have h2 := Int.tmod_nonneg n (show 0 ≤ -m by omega)
        rw [Int.neg_tmod] at h2
        omega
  · by_cases h0 : m.tdiv n = 0
    · exact .inl h0
    · right
      by_cases hm : 0 ≤ m
      · by_cases hn2 : 0 ≤ n
        · have := Int.tdiv_nonneg hm hn2; omega
        · have := Int.tdiv_nonneg hm (show 0 ≤ -n by omega)
          rw [Int.tdiv_neg] at this; omega
      · by_cases hn2 : 0 ≤ n
        · have := Int.tdiv_nonneg (show 0 ≤ -m by omega) hn2
          rw [Int.neg_tdiv] at this; omega
        · have := Int.tdiv_nonneg (show 0 ≤ -m by omega) (show 0 ≤ -n by omega)
          rw [Int.tdiv_neg, Int.neg_tdiv] at this; omega
theorem c_IntY (n : Int) (w : World) (h : (intP n).2 = 0) : Calls Try.prog 14 #[.int .i64 n] w fun e w' => e = .returned (.tuple #[.int .u64 (intP n).1, .int .i64 0]) ∧ Drawn0 w w' := by
  have := c_Int n w; rw [h] at this; exact this
theorem c_ToIntY (n : Int) (w : World) (h : (intP n).2 = 0) : Calls Try.prog 15 #[.int .u64 (intP n).1] w fun e w' => e = .returned (.tuple #[.int .i64 n, .bool true]) ∧ Drawn0 w w' := by
  have := c_ToInt (intP n).1 w (intP_wf n).1 (intP_wf n).2; rw [toIntP_intP h] at this; exact this
theorem c_quo (m n : Int) (w : World) (hx : (intP m).2 = 0) (hy : (intP n).2 = 0) (h0 : n ≠ 0) (hq : (intP (m.tdiv n)).2 = 0) :
    Calls Try.prog 11 #[.int .u8 47, .int .u64 (intP m).1, .int .u64 (intP n).1] w fun e w' => e = .returned (.tuple #[.int .u64 (intP (m.tdiv n)).1, .int .i64 0]) ∧ Below w.heap.size w w' := by
  have := c_Do 47 (intP m).1 (intP n).1 w (intP_wf m).1 (intP_wf m).2 (intP_wf n).1 (intP_wf n).2; rw [do_quo hx hy h0, hq] at this; exact this
theorem c_rem (m n : Int) (w : World) (hx : (intP m).2 = 0) (hy : (intP n).2 = 0) (h0 : n ≠ 0) (hq : (intP (m.tmod n)).2 = 0) :
    Calls Try.prog 11 #[.int .u8 37, .int .u64 (intP m).1, .int .u64 (intP n).1] w fun e w' => e = .returned (.tuple #[.int .u64 (intP (m.tmod n)).1, .int .i64 0]) ∧ Below w.heap.size w w' := by
  have := c_Do 37 (intP m).1 (intP n).1 w (intP_wf m).1 (intP_wf m).2 (intP_wf n).1 (intP_wf n).2; rw [do_rem hx hy h0, hq] at this; exact this
theorem sign_end (q m n : Int) (h4 : q = 0 ∨ (q < 0 ↔ ¬ (m < 0 ↔ n < 0))) : q = 0 ∨ decide (q < 0) = (!decide (m < 0) == decide (n < 0)) := by
  refine h4.imp id (fun h => ?_)
  by_cases h0 : q < 0 <;> by_cases h1 : m < 0 <;> by_cases h2 : n < 0 <;> simp [h0, h1, h2] at h ⊢
set_option maxHeartbeats 4000000 in
theorem walk (a b : Int) (w : World) :
    Calls Try.prog 6 #[.int .i64 a, .int .i64 b] w fun e w' => e = .returned (.bool true) ∧ Below w.heap.size w w' := by
  have h1 := tmod_M a (show (0 : Int) < 1099511627776 by decide)
  have h2 := tmod_M b (show (0 : Int) < 1099511627776 by decide)
  go_enter Try.func6, Try.ntmps6
  go_wp2_with (go_at_call 13; refine (eddywheellaw01_shown.calls 4 true _ (b_shown 0)).mono ?_; rintro e w1 ⟨rfl, hb1⟩)
  generalize a.tmod 1099511627776 = m at *
  generalize b.tmod 1099511627776 = n at *
  refine (c_IntY _ _ ((intP_ok _).2 h1)).mono ?_
  rintro e w2 ⟨rfl, ⟨n2, rfl⟩⟩
  go_wp2_with (go_at_call 14; refine (c_IntY _ _ ((intP_ok _).2 h2)).mono ?_; rintro e w2 ⟨rfl, ⟨n3, rfl⟩⟩)
  · go_ret
    exact ⟨rfl, pw_below_drewN hb1 _⟩
  · have hn : ¬ n = 0 := by have h : (n == 0) = false := by assumption
                            simpa using h
    have hx : (intP m).2 = 0 := (intP_ok _).2 h1
    have hy : (intP n).2 = 0 := (intP_ok _).2 h2
    have qb := tdiv_bound m n h1.1 h1.2
    have rb : -1099511627776 < m.tmod n ∧ m.tmod n < 1099511627776 := by
      have := Int.natAbs_tmod m n
      have := Nat.mod_lt m.natAbs (show n.natAbs > 0 by omega)
      omega
    have Hq0 := Lib.hid ((intP_ok _).2 qb)
    have Hr0 := Lib.hid ((intP_ok _).2 rb)
    have Hx := Lib.hid hx
    have Hy := Lib.hid hy
    clear hx hy
    refine (c_quo _ _ _ Hx.out Hy.out hn Hq0.out).mono ?_
    rintro e w3 ⟨rfl, hb2⟩
    go_wp2_with fail
    refine (c_rem _ _ _ Hx.out Hy.out hn Hr0.out).mono ?_
    rintro e w4 ⟨rfl, hb3⟩
    go_wp2_with fail
    refine (c_ToIntY _ _ Hq0.out).mono ?_
    rintro e w5 ⟨rfl, ⟨n4, rfl⟩⟩
    go_wp2_with fail
    refine (c_ToIntY _ _ Hr0.out).mono ?_
    rintro e w6 ⟨rfl, ⟨n5, rfl⟩⟩
    obtain ⟨pl1, pl2, pl3, pl4⟩ := sizes m n hn
    clear Hq0 Hr0 Hx Hy
    generalize m.tdiv n = q at *
    generalize m.tmod n = r at *
    have hnz : ¬ sz n = 0 := by unfold sz; omega
    have hw : wrap64 ((sz m).tdiv (sz n)) = sz q := by rw [← pl1]; exact wrap64_id (by unfold sz; omega) (by unfold sz; omega)
    have t2 : decide (sz r < sz n) = true := by simpa using pl2
    clear pl1 pl2
    have hb4 := below_step (pw_below_drewN (below_step (pw_below_drewN hb1 _) hb2) 0) hb3
    go_wp2_with (go_at_call 16; refine (size_calls _ _ (by omega) (by omega)).mono ?_; rintro e w7 ⟨rfl, rfl⟩)
    all_goals try (exfalso; omega)
    all_goals
      go_ret
      refine ⟨?_, pw_below_drewN hb4 _⟩
      simp <;> exact sign_end _ _ _ pl4
end Go.Proofs.Ytfabipoeollidaa.Signs

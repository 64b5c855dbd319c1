/- A word that may be is one thing alone, and what was made is what is told, for any word and any number; no conditions. -/
import Derived.Test.YtfabipoeollidaaPWordOnex3
import Derived.Test.YtfabipoeollidaaWord
namespace Go.Proofs.Ytfabipoeollidaa.Pure
open Go.RowKit Go.Proofs.Ytfabipoeollidaa.PWordOne Go.Proofs.YtfabipoeollidaaW.PrintWords Go.Proofs.YtfabipoeollidaaW.PrintLast
open Go Go.Proofs.Ytfabipoeollidaa.Word Go.Proofs.YtfabipoeollidaaW.PrintMore
set_option linter.unusedSimpArgs false
theorem b_Int (n : Int) : word_Int.f n = some (intP n) := by
  unfold word_Int.f intP
  (repeat' split) <;> first | rfl | (simp only [wrap_u64]; congr 2; omega)
theorem b_ToInt (w : Int) (h0 : 0 ≤ w) (h1 : w < 18446744073709551616) : word_ToInt.f w = some (toIntP w) := by
  unfold word_ToInt.f toIntP
  rw [u64_and7 w h0 h1]
  (repeat' split) <;> rfl
theorem b_Bool (b : Bool) : word_Bool.f b = some (boolP b) := by cases b <;> rfl
theorem b_Mul64 (a b : Int) (ha : 0 ≤ a) (ha' : a < 18446744073709551616) (hb : 0 ≤ b) (hb' : b < 18446744073709551616) :
    bits_Mul64.f a b = some (a * b / 18446744073709551616, a * b % 18446744073709551616) := by
  unfold bits_Mul64.f
  rw [mul_hi a b ha ha' hb hb', wrap_u64 (a * b)]
theorem b_times (k : Nat) (a b : Int) (ha : -1099511627776 < a) (ha' : a < 1099511627776) (hb : -1099511627776 < b) (hb' : b < 1099511627776) :
    word_times.f (k + 1) a b = some (intP (a * b)) := by
  unfold word_times.f
  rw [mx_abs a ha ha', mx_abs b hb hb', wrap_u64, wrap_u64, Int.emod_eq_of_lt (by omega) (by omega), Int.emod_eq_of_lt (by omega) (by omega),
    b_Mul64 _ _ (by omega) (by omega) (by omega) (by omega), abs_mul]
  simp only [Option.bind_some]
  have hm : (a * b).natAbs < 1208925819614629174706176 := by
    rw [Int.natAbs_mul]
    exact Nat.lt_of_le_of_lt (Nat.mul_le_mul (show a.natAbs ≤ 1099511627775 by omega) (show b.natAbs ≤ 1099511627775 by omega)) (by decide)
  have hs : (decide (a < 0) != decide (b < 0)) = true → a * b ≤ 0 := by
    intro h
    by_cases h1 : a < 0
    · have h2 : ¬ b < 0 := by intro h2; simp [h1, h2] at h
      exact Int.mul_nonpos_of_nonpos_of_nonneg (by omega) (by omega)
    · have h2 : b < 0 := by
        by_cases h2 : b < 0
        · exact h2
        · simp [h1, h2] at h
      exact Int.mul_nonpos_of_nonneg_of_nonpos (by omega) (by omega)
  have hp : ¬ (decide (a < 0) != decide (b < 0)) = true → 0 ≤ a * b := by
    intro h
    by_cases h1 : a < 0
    · have h2 : b < 0 := by
        by_cases h2 : b < 0
        · exact h2
        · simp [h1, h2] at h
      exact Int.mul_nonneg_of_nonpos_of_nonpos (by omega) (by omega)
    · have h2 : ¬ b < 0 := by intro h2; simp [h1, h2] at h
      exact Int.mul_nonneg (by omega) (by omega)
  generalize hab : a * b = c at *
  by_cases h1 : ((c.natAbs : Int)) / 18446744073709551616 > 0
  · rw [if_pos h1, intP_no (by omega)]
    simp [word_times.j0]
  · rw [if_neg h1]
    have hl : ((c.natAbs : Int)) % 18446744073709551616 = c.natAbs := by omega
    rw [hl]
    by_cases h2 : ((c.natAbs : Int)) ≥ 1099511627776
    · rw [intP_no (by omega)]
      simp [word_times.j0, h2]
    · simp only [word_times.j0]
      rw [if_neg (by simp [h2]), b_Int, b_Int, wrap64_id (n := (c.natAbs : Int)) (by omega) (by omega), wrap64_id (by omega) (by omega)]
      simp only [Option.bind_some]
      split
      · rename_i h3; have := hs h3
        rw [show -((c.natAbs : Int)) = c by omega]
      · rename_i h3; have := hp h3
        rw [show ((c.natAbs : Int)) = c by omega]
theorem tdiv_bound (x y : Int) (h0 : -1099511627776 < x) (h1 : x < 1099511627776) : -1099511627776 < x.tdiv y ∧ x.tdiv y < 1099511627776 := by
  have := Int.natAbs_tdiv_le_natAbs x y
  omega
theorem b_Do (k : Nat) (op a b : Int) (ha : 0 ≤ a) (ha' : a < 18446744073709551616) (hb : 0 ≤ b) (hb' : b < 18446744073709551616) :
    word_Do.f (k + 4) op a b = some (doP op a b) := by
  have hx := toIntP_range a
  have hy := toIntP_range b
  have j2 : ¬ ((op = 47 ∨ op = 37) ∧ (toIntP b).1 = 0) → (toIntP a).2 = true → (toIntP b).2 = true → isOp op → word_Do.j2 (k + 2) op (toIntP a).1 (toIntP b).1 = some (doP op a b) := by
    intro hz h1 h2 ho
    unfold doP
    rw [if_neg (fun h => h ho), if_neg (by simp [h1, h2]), if_neg hz]
    generalize (toIntP a).1 = x at *
    generalize (toIntP b).1 = y at *
    have := tdiv_bound x y hx.1 hx.2
    simp only [word_Do.j2]
    rcases ho with rfl | rfl | rfl | rfl | rfl | rfl | rfl
    · simp [b_Int, wrap64_id (n := x + y) (by omega) (by omega)]
    · simp [b_Int, wrap64_id (n := x - y) (by omega) (by omega)]
    · simp [b_times k x y hx.1 hx.2 hy.1 hy.2]
    · have : y ≠ 0 := fun h => hz ⟨.inl rfl, h⟩
      simp [this, b_Int, wrap64_id (n := x.tdiv y) (by omega) (by omega)]
    · have : y ≠ 0 := fun h => hz ⟨.inr rfl, h⟩
      simp [this, b_Int]
    · simp [b_Bool]
    · simp [b_Bool]
  have j0 : isOp op → word_Do.j0 (k + 4) op a b = some (doP op a b) := by
    intro ho
    simp only [word_Do.j0]
    rw [b_ToInt a ha ha', b_ToInt b hb hb']
    simp only [Option.bind_some]
    cases h1 : (toIntP a).2 with
    | false => simp [word_Do.j1, doP, ho, h1]
    | true =>
      cases h2 : (toIntP b).2 with
      | false => simp [word_Do.j1, doP, ho, h1, h2]
      | true =>
        by_cases hz : (op = 47 ∨ op = 37) ∧ (toIntP b).1 = 0
        · rcases hz with ⟨h3 | h3, h4⟩ <;> subst h3 <;> simp [isOp, word_Do.j1, doP, h1, h2, h4]
        · have := j2 hz h1 h2 ho
          simp only [Bool.not_true, if_true, word_Do.j1]
          rw [if_neg (by simp)]
          split
          · rename_i h4
            rw [if_neg (fun h => hz ⟨.inl h, h4⟩), if_neg (fun h => hz ⟨.inr h, h4⟩)]; exact this
          · exact this
  unfold word_Do.f
  by_cases ho : isOp op
  · rw [j0 ho]
    rcases ho with rfl | rfl | rfl | rfl | rfl | rfl | rfl <;> simp
  · have : doP op a b = (0, 1) := by unfold doP; rw [if_pos ho]
    rw [this]
    simp only [isOp, not_or] at ho
    simp [ho]
theorem b_shown (k : Nat) : eddywheellaw01_shown.f (k + 4) = some true := by
  have e1 : intP (-1) = (18446744073709551608, 0) := by decide +kernel
  have e2 : intP (-7) = (18446744073709551560, 0) := by decide +kernel
  have e3 : intP 2 = (16, 0) := by decide +kernel
  have e4 : doP 47 18446744073709551560 16 = (18446744073709551592, 0) := by decide +kernel
  have e5 : doP 37 18446744073709551560 16 = (18446744073709551608, 0) := by decide +kernel
  have e6 : toIntP 18446744073709551592 = (-3, true) := by decide +kernel
  have e7 : toIntP 18446744073709551608 = (-1, true) := by decide +kernel
  unfold eddywheellaw01_shown.f
  rw [b_Int, b_Int, b_Int, e1, e2, e3]
  simp only [Option.bind_some]
  rw [b_Do k 47 _ _ (by decide) (by decide) (by decide) (by decide), e4]
  simp only [Option.bind_some]
  rw [b_Do k 37 _ _ (by decide) (by decide) (by decide) (by decide), e5]
  simp only [Option.bind_some]
  rw [b_ToInt _ (by decide) (by decide), b_ToInt _ (by decide) (by decide), e6, e7]
  simp
theorem b_Of (k : Nat) (kd n : Int) (hn : -9223372036854775808 ≤ n) (hn' : n < 9223372036854775808) : word_Of.f (k + 1) kd n = some (ofP kd n) := by
  have key : kd = 1 ∨ kd = 3 ∨ kd = 4 → word_Of.j0 (k + 1) kd n true = some (ofP kd n) := by
    intro hk
    simp only [word_Of.j0, if_true]
    unfold ofP
    by_cases h0 : n ≥ 0
    · by_cases h1 : n < 1099511627776
      · rw [if_pos h0, if_pos h1, if_pos ⟨hk, h0, h1⟩, wrap_u64 n, wrap_u64, wrap_u64, Int.emod_eq_of_lt (a := n) (by omega) (by omega), Int.emod_eq_of_lt (by omega) (by omega), Int.emod_eq_of_lt (a := kd) (by omega) (by omega)]
        rw [u64_or8 (by omega) (by omega) (by omega) (by omega) (by omega)]
      · rw [if_pos h0, if_neg h1, if_neg (fun h => h1 h.2.2)]
    · rw [if_neg h0, if_neg (fun h => h0 h.2.1)]
  unfold word_Of.f
  by_cases h1 : kd = 1
  · rw [if_pos h1, show (kd == 1) = true by simpa using h1]; exact key (.inl h1)
  · by_cases h3 : kd = 3
    · rw [if_neg h1, if_pos h3, show (kd == 3) = true by simpa using h3]; exact key (.inr (.inl h3))
    · by_cases h4 : kd = 4
      · rw [if_neg h1, if_neg h3, show (kd == 4) = true by simpa using h4]; exact key (.inr (.inr h4))
      · rw [if_neg h1, if_neg h3, show (kd == 4) = false by simpa using h4]
        unfold ofP
        rw [if_neg (fun h => by omega)]
        simp [word_Of.j0]
theorem b_To (k : Nat) (kd w : Int) (h0 : 0 ≤ w) (h1 : w < 18446744073709551616) : word_To.f (k + 1) kd w = some (toP kd w) := by
  have key : kd = 1 ∨ kd = 3 ∨ kd = 4 → word_To.j0 (k + 1) kd w true = some (toP kd w) := by
    intro hk
    simp only [word_To.j0, if_true]
    rw [u64_and7 w h0 h1, wrap_u64, Int.emod_eq_of_lt (a := kd) (by omega) (by omega)]
    unfold toP
    by_cases h2 : w % 8 = kd
    · by_cases h3 : w / 8 < 1099511627776
      · rw [if_pos h2, if_pos h3, if_pos ⟨hk, h2, h3⟩, wrap64_id (by omega) (by omega)]
      · rw [if_pos h2, if_neg h3, if_neg (fun h => h3 h.2.2)]
    · rw [if_neg h2, if_neg (fun h => h2 h.2.1)]
  unfold word_To.f
  by_cases h1 : kd = 1
  · rw [if_pos h1, show (kd == 1) = true by simpa using h1]; exact key (.inl h1)
  · by_cases h3 : kd = 3
    · rw [if_neg h1, if_pos h3, show (kd == 3) = true by simpa using h3]; exact key (.inr (.inl h3))
    · by_cases h4 : kd = 4
      · rw [if_neg h1, if_neg h3, show (kd == 4) = true by simpa using h4]; exact key (.inr (.inr h4))
      · rw [if_neg h1, if_neg h3, show (kd == 4) = false by simpa using h4]
        unfold toP
        rw [if_neg (fun h => by omega)]
        simp [word_To.j0]
theorem b_May (k : Nat) (w : Int) (h0 : 0 ≤ w) (h1 : w < 18446744073709551616) : word_May.f (k + 1) w = some (mayP w) := by
  unfold word_May.f mayP
  rw [u64_and7 w h0 h1, wrap64_id (by omega) (by omega), b_ToInt w h0 h1, b_To k _ w h0 h1]
  (repeat' split) <;> rfl
theorem one_j2 (k : Nat) (w n c kd len i : Int) (L : List Int) (h : Bool) (hn : -9223372036854775808 ≤ n) (hn' : n < 9223372036854775808) :
    eddywheellaw01_WordOne.j2 (k + 2) w n h c kd L len i = eddywheellaw01_WordOne.l0 (k + 1) w n h c L len (wrap64 (i + 1)) := by
  simp only [eddywheellaw01_WordOne.j2]
  rw [b_Of k kd n hn hn']
  simp only [Option.bind_some]
  by_cases ho : (ofP kd n).2 = 0
  · have g := ofP_wf kd n
    rw [if_pos ho, b_To k _ _ g.1 g.2, toP_ofP ho]
    simp only [Option.bind_some, if_true]
    rw [b_May k _ g.1 g.2, mayP_ofP ho]
    simp
  · rw [if_neg ho]
theorem one_l0 (k : Nat) (w n c i : Int) (L : List Int) (h : Bool) (hw : 0 ≤ w) (hw' : w < 18446744073709551616) (hi : 0 ≤ i) (hi' : i < (L.length : Int)) (hn : -9223372036854775808 ≤ n) (hn' : n < 9223372036854775808) :
    eddywheellaw01_WordOne.l0 (k + 3) w n h c L L.length i = eddywheellaw01_WordOne.l0 (k + 1) w n h (if (toP (rd L i) w).2 = true then wrap64 (c + 1) else c) L L.length (wrap64 (i + 1)) := by
  conv => lhs; unfold eddywheellaw01_WordOne.l0
  rw [if_pos hi', if_pos hi, if_pos hi', b_To (k + 1) _ w hw hw']
  simp only [Option.bind_some]
  by_cases ht : (toP (rd L i) w).2 = true
  · have g := toP_range (rd L i) w hw
    rw [if_pos ht, if_pos ht, b_Of (k + 1) _ _ (by omega) (by omega), ofP_toP hw ht]
    simp only [Option.bind_some, if_true]
    exact one_j2 k w n _ _ _ _ L h hn hn'
  · rw [if_neg ht, if_neg ht]
    exact one_j2 k w n _ _ _ _ L h hn hn'
theorem one_end (w n c : Int) (hw : 0 ≤ w) (hw' : w < 18446744073709551616)
    (hc : (if (if w = 2 then 1 else 0) + (if w = 10 then 1 else 0) + (if w = 18 then 1 else 0) + (if w = 26 then 1 else 0) + c = 1 then true else false) = mayP w)
    (hc1 : c ≤ 1) (hc0 : 0 ≤ c) (hm : (w = 2 ∨ w = 10 ∨ w = 18 ∨ w = 26) → c = 0) :
    eddywheellaw01_WordOne.l1 6 w n true c [2, 10, 18, 26] 4 0 = some true := by
  have fin : ∀ d, (d == 1) = mayP w → d ≤ 1 → eddywheellaw01_WordOne.l1 2 w n true d [2, 10, 18, 26] 4 4 = some true := by
    intro d hd hd1
    simp only [eddywheellaw01_WordOne.l1]
    rw [if_neg (by decide), b_Int]
    simp only [Option.bind_some]
    have g := intP_wf n
    rw [b_ToInt _ g.1 g.2, b_May 0 w hw hw']
    simp only [Option.bind_some, if_true]
    rw [hd, if_pos (by simp), if_pos hd1]
    by_cases ho : (intP n).2 = 0
    · rw [if_pos ho, toIntP_intP ho]; simp
    · rw [if_neg ho]
  have st : ∀ (k : Nat) (d i : Int), 0 ≤ i → i < 4 → eddywheellaw01_WordOne.l1 (k + 1) w n true d [2, 10, 18, 26] 4 i = eddywheellaw01_WordOne.l1 k w n true (if rd [2, 10, 18, 26] i = w then wrap64 (d + 1) else d) [2, 10, 18, 26] 4 (wrap64 (i + 1)) := by
    intro k d i h0 h1
    conv => lhs; unfold eddywheellaw01_WordOne.l1
    rw [if_pos h1, if_pos h0, if_pos (by simpa using h1)]
    split <;> rfl
  rw [st 5 c 0 (by decide) (by decide), wrap64_id (n := 0 + 1) (by decide) (by decide), st 4 _ _ (by decide) (by decide), wrap64_id (n := 0 + 1 + 1) (by decide) (by decide), st 3 _ _ (by decide) (by decide), wrap64_id (n := 0 + 1 + 1 + 1) (by decide) (by decide), st 2 _ _ (by decide) (by decide), wrap64_id (n := 0 + 1 + 1 + 1 + 1) (by decide) (by decide)]
  have r0 : rd [2, 10, 18, 26] 0 = 2 := rfl
  have r1 : rd [2, 10, 18, 26] (0 + 1) = 10 := rfl
  have r2 : rd [2, 10, 18, 26] (0 + 1 + 1) = 18 := rfl
  have r3 : rd [2, 10, 18, 26] (0 + 1 + 1 + 1) = 26 := rfl
  rw [r0, r1, r2, r3]
  refine fin _ ?_ ?_
  · rw [← hc]
    by_cases e0 : w = 2
    · subst e0; have := hm (.inl rfl); subst this; decide +kernel
    · by_cases e1 : w = 10
      · subst e1; have := hm (.inr (.inl rfl)); subst this; decide +kernel
      · by_cases e2 : w = 18
        · subst e2; have := hm (.inr (.inr (.inl rfl))); subst this; decide +kernel
        · by_cases e3 : w = 26
          · subst e3; have := hm (.inr (.inr (.inr rfl))); subst this; decide +kernel
          · rw [if_neg (show ¬ 26 = w by omega), if_neg (show ¬ 18 = w by omega), if_neg (show ¬ 10 = w by omega), if_neg (show ¬ 2 = w by omega), if_neg e0, if_neg e1, if_neg e2, if_neg e3]
            by_cases c1 : c = 1
            · subst c1; rfl
            · rw [if_neg (by omega)]; simpa using c1
  · by_cases e0 : w = 2
    · subst e0; have := hm (.inl rfl); subst this; decide +kernel
    · by_cases e1 : w = 10
      · subst e1; have := hm (.inr (.inl rfl)); subst this; decide +kernel
      · by_cases e2 : w = 18
        · subst e2; have := hm (.inr (.inr (.inl rfl))); subst this; decide +kernel
        · by_cases e3 : w = 26
          · subst e3; have := hm (.inr (.inr (.inr rfl))); subst this; decide +kernel
          · rw [if_neg (show ¬ 26 = w by omega), if_neg (show ¬ 18 = w by omega), if_neg (show ¬ 10 = w by omega), if_neg (show ¬ 2 = w by omega)]; exact hc1
theorem WordOne : eddywheellaw01_WordOne.Pure := by
  intro w n hw hn
  obtain ⟨h0, h1⟩ := wf_u64 hw
  obtain ⟨n0, n1⟩ := wf_i64 hn
  have e134 : ∀ (k : Nat) (c : Int), 0 ≤ c → c ≤ 1 → eddywheellaw01_WordOne.j0 (k + 9) w n true c =
      eddywheellaw01_WordOne.l1 (k + 1) w n true (((c + if (toP 1 w).2 = true then 1 else 0) + if (toP 3 w).2 = true then 1 else 0) + if (toP 4 w).2 = true then 1 else 0) [2, 10, 18, 26] 4 0 := by
    intro k c hc0 hc1
    have L3 : (([1, 3, 4] : List Int).length : Int) = 3 := rfl
    simp only [eddywheellaw01_WordOne.j0, Option.bind_some]
    have q0 : rd [1, 3, 4] 0 = 1 := rfl
    have q1 : rd [1, 3, 4] (0 + 1) = 3 := rfl
    have q2 : rd [1, 3, 4] (0 + 1 + 1) = 4 := rfl
    rw [one_l0 (k + 5) w n c 0 [1, 3, 4] true h0 h1 (by decide) (by decide) n0 n1, wrap64_id (n := 0 + 1) (by decide) (by decide),
      one_l0 (k + 3) w n _ (0 + 1) [1, 3, 4] true h0 h1 (by decide) (by decide) n0 n1, wrap64_id (n := 0 + 1 + 1) (by decide) (by decide),
      one_l0 (k + 1) w n _ (0 + 1 + 1) [1, 3, 4] true h0 h1 (by decide) (by decide) n0 n1, wrap64_id (n := 0 + 1 + 1 + 1) (by decide) (by decide), q0, q1, q2]
    conv => lhs; unfold eddywheellaw01_WordOne.l0
    rw [if_neg (by decide)]
    simp only [Option.bind_some]
    have : ((if (toP 4 w).2 = true then wrap64 ((if (toP 3 w).2 = true then wrap64 ((if (toP 1 w).2 = true then wrap64 (c + 1) else c) + 1) else if (toP 1 w).2 = true then wrap64 (c + 1) else c) + 1) else if (toP 3 w).2 = true then wrap64 ((if (toP 1 w).2 = true then wrap64 (c + 1) else c) + 1) else if (toP 1 w).2 = true then wrap64 (c + 1) else c))
        = (((c + if (toP 1 w).2 = true then 1 else 0) + if (toP 3 w).2 = true then 1 else 0) + if (toP 4 w).2 = true then 1 else 0) := by
      rw [wrap64_id (n := c + 1) (by omega) (by omega)]
      cases (toP 1 w).2 <;> cases (toP 3 w).2 <;> cases (toP 4 w).2 <;> simp <;> unfold wrap64 <;> omega
    rw [this]
    rfl
  refine ⟨14, ?_⟩
  unfold eddywheellaw01_WordOne.f
  rw [b_shown 10, b_ToInt w h0 h1]
  simp only [Option.bind_some]
  have t1 := toP_ok 1 w
  have t3 := toP_ok 3 w
  have t4 := toP_ok 4 w
  by_cases hi : (toIntP w).2 = true
  · have hm : w % 8 = 0 := by
      by_cases hm : w % 8 = 0
      · exact hm
      · simp [toIntP, hm] at hi
    have n1 : (toP 1 w).2 = false := by rw [Bool.eq_false_iff]; intro h; have := (t1.1 h).2; omega
    have n3 : (toP 3 w).2 = false := by rw [Bool.eq_false_iff]; intro h; have := (t3.1 h).2; omega
    have n4 : (toP 4 w).2 = false := by rw [Bool.eq_false_iff]; intro h; have := (t4.1 h).2; omega
    rw [if_pos hi, b_Int, intP_toIntP h0 h1 hi]
    simp only [Option.bind_some, if_true]
    rw [e134 5 _ (by decide) (by decide), n1, n3, n4]
    refine one_end w n _ h0 h1 ?_ (by decide) (by decide) (by omega)
    have : mayP w = true := by unfold mayP; rw [if_pos hm, hi]
    rw [this, if_neg (show ¬ w = 2 by omega), if_neg (show ¬ w = 10 by omega), if_neg (show ¬ w = 18 by omega), if_neg (show ¬ w = 26 by omega)]; rfl
  · rw [if_neg hi, e134 5 0 (by decide) (by decide)]
    have hi : (toIntP w).2 = false := by simpa using hi
    by_cases m0 : w % 8 = 0
    · have n1 : (toP 1 w).2 = false := by rw [Bool.eq_false_iff]; intro h; have := (t1.1 h).2; omega
      have n3 : (toP 3 w).2 = false := by rw [Bool.eq_false_iff]; intro h; have := (t3.1 h).2; omega
      have n4 : (toP 4 w).2 = false := by rw [Bool.eq_false_iff]; intro h; have := (t4.1 h).2; omega
      rw [n1, n3, n4]
      refine one_end w n _ h0 h1 ?_ (by decide) (by decide) (by omega)
      have : mayP w = false := by unfold mayP; rw [if_pos m0, hi]
      rw [this, if_neg (show ¬ w = 2 by omega), if_neg (show ¬ w = 10 by omega), if_neg (show ¬ w = 18 by omega), if_neg (show ¬ w = 26 by omega)]; rfl
    · by_cases m2 : w % 8 = 2
      · have n1 : (toP 1 w).2 = false := by rw [Bool.eq_false_iff]; intro h; have := (t1.1 h).2; omega
        have n3 : (toP 3 w).2 = false := by rw [Bool.eq_false_iff]; intro h; have := (t3.1 h).2; omega
        have n4 : (toP 4 w).2 = false := by rw [Bool.eq_false_iff]; intro h; have := (t4.1 h).2; omega
        rw [n1, n3, n4]
        refine one_end w n _ h0 h1 ?_ (by decide) (by decide) (by intro _; rfl)
        have : mayP w = decide (w ≤ 26) := by unfold mayP; rw [if_neg m0, if_pos m2]
        rw [this]
        by_cases e0 : w = 2
        · subst e0; decide +kernel
        · by_cases e1 : w = 10
          · subst e1; decide +kernel
          · by_cases e2 : w = 18
            · subst e2; decide +kernel
            · by_cases e3 : w = 26
              · subst e3; decide +kernel
              · rw [if_neg e0, if_neg e1, if_neg e2, if_neg e3]; simp; omega
      · have hmay : mayP w = (toP (w % 8) w).2 := by unfold mayP; rw [if_neg m0, if_neg m2]
        have hmark : ¬ (w = 2 ∨ w = 10 ∨ w = 18 ∨ w = 26) := by omega
        have cnt : ∀ b1 b3 b4 : Bool, (toP 1 w).2 = b1 → (toP 3 w).2 = b3 → (toP 4 w).2 = b4 → (b1 = true → b3 = false ∧ b4 = false ∧ mayP w = true) → (b3 = true → b1 = false ∧ b4 = false ∧ mayP w = true) → (b4 = true → b1 = false ∧ b3 = false ∧ mayP w = true) → (b1 = false → b3 = false → b4 = false → mayP w = false) →
            eddywheellaw01_WordOne.l1 6 w n true (((0 + if (toP 1 w).2 = true then 1 else 0) + if (toP 3 w).2 = true then 1 else 0) + if (toP 4 w).2 = true then 1 else 0) [2, 10, 18, 26] 4 0 = some true := by
          intro b1 b3 b4 h1' h3' h4' k1 k3 k4 k0
          rw [h1', h3', h4']
          refine one_end w n _ h0 h1 ?_ ?_ ?_ (fun h => absurd h hmark)
          · rw [if_neg (fun h => hmark (.inl h)), if_neg (fun h => hmark (.inr (.inl h))), if_neg (fun h => hmark (.inr (.inr (.inl h)))), if_neg (fun h => hmark (.inr (.inr (.inr h))))]
            cases b1 <;> cases b3 <;> cases b4 <;> simp_all
          · cases b1 <;> cases b3 <;> cases b4 <;> simp_all
          · cases b1 <;> cases b3 <;> cases b4 <;> simp_all
        refine cnt _ _ _ rfl rfl rfl ?_ ?_ ?_ ?_
        · intro h; have g := (t1.1 h).2; refine ⟨?_, ?_, ?_⟩
          · rw [Bool.eq_false_iff]; intro h; have := (t3.1 h).2; omega
          · rw [Bool.eq_false_iff]; intro h; have := (t4.1 h).2; omega
          · rw [hmay, g.1]; exact h
        · intro h; have g := (t3.1 h).2; refine ⟨?_, ?_, ?_⟩
          · rw [Bool.eq_false_iff]; intro h; have := (t1.1 h).2; omega
          · rw [Bool.eq_false_iff]; intro h; have := (t4.1 h).2; omega
          · rw [hmay, g.1]; exact h
        · intro h; have g := (t4.1 h).2; refine ⟨?_, ?_, ?_⟩
          · rw [Bool.eq_false_iff]; intro h; have := (t1.1 h).2; omega
          · rw [Bool.eq_false_iff]; intro h; have := (t3.1 h).2; omega
          · rw [hmay, g.1]; exact h
        · intro h1 h3 h4
          rw [hmay, Bool.eq_false_iff]
          intro h
          have g := (toP_ok _ _).1 h
          rcases g.1 with e | e | e <;> rw [e] at h <;> simp_all
end Go.Proofs.Ytfabipoeollidaa.Pure

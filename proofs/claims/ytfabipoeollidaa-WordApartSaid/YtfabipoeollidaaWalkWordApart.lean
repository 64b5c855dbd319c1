import Derived.Test.YtfabipoeollidaaPWordApartx2
import Derived.Test.YtfabipoeollidaaWord
import Derived.Test.YtfabipoeollidaaOwn
import Derived.Lib.Hide
import Derived.Maps.OwnOps
import Derived.Maps.Views
namespace Go.Proofs.Ytfabipoeollidaa.Apart
open Go Go.RowKit Go.Proofs.Ytfabipoeollidaa.PWordApart Go.Proofs.YtfabipoeollidaaW.PrintWords Go.Proofs.YtfabipoeollidaaW.PrintLast Go.Proofs.YtfabipoeollidaaW.PrintMore Go.Proofs.Ytfabipoeollidaa.Word
open Go Go.Proofs.Ytfabipoeollidaa.Word Go.Proofs.YtfabipoeollidaaW.PrintMore
set_option linter.unusedSimpArgs false
theorem b_Int (n : Int) : word_Int.f n = some (intP n) := by
  unfold word_Int.f intP
  (repeat' split) <;> first | rfl | (simp only [wrap_u64]; congr 2; omega)
theorem b_ToInt (w : Int) (h0 : 0 ≤ w) (h1 : w < 18446744073709551616) : word_ToInt.f w = some (toIntP w) := by
  unfold word_ToInt.f toIntP
  rw [u64_and7 w h0 h1]
  (repeat' split) <;> rfl
theorem b_Bool (b : Bool) : word_Bool.f b = some (boolP b) := by cases b <;> rfl
theorem b_Mul64 (a b : Int) (ha : 0 ≤ a) (ha' : a < 18446744073709551616) (hb : 0 ≤ b) (hb' : b < 18446744073709551616) :
    bits_Mul64.f a b = some (a * b / 18446744073709551616, a * b % 18446744073709551616) := by
  unfold bits_Mul64.f
  rw [mul_hi a b ha ha' hb hb', wrap_u64 (a * b)]
theorem b_times (k : Nat) (a b : Int) (ha : -1099511627776 < a) (ha' : a < 1099511627776) (hb : -1099511627776 < b) (hb' : b < 1099511627776) :
    word_times.f (k + 1) a b = some (intP (a * b)) := by
  unfold word_times.f
  rw [mx_abs a ha ha', mx_abs b hb hb', wrap_u64, wrap_u64, Int.emod_eq_of_lt (by omega) (by omega), Int.emod_eq_of_lt (by omega) (by omega),
    b_Mul64 _ _ (by omega) (by omega) (by omega) (by omega), abs_mul]
  simp only [Option.bind_some]
  have hm : (a * b).natAbs < 1208925819614629174706176 := by
    rw [Int.natAbs_mul]
    exact Nat.lt_of_le_of_lt (Nat.mul_le_mul (show a.natAbs ≤ 1099511627775 by omega) (show b.natAbs ≤ 1099511627775 by omega)) (by decide)
  have hs : (decide (a < 0) != decide (b < 0)) = true → a * b ≤ 0 := by
    intro h
    by_cases h1 : a < 0
    · have h2 : ¬ b < 0 := by intro h2; simp [h1, h2] at h
      exact Int.mul_nonpos_of_nonpos_of_nonneg (by omega) (by omega)
    · have h2 : b < 0 := by
        by_cases h2 : b < 0
        · exact h2
        · simp [h1, h2] at h
      exact Int.mul_nonpos_of_nonneg_of_nonpos (by omega) (by omega)
  have hp : ¬ (decide (a < 0) != decide (b < 0)) = true → 0 ≤ a * b := by
    intro h
    by_cases h1 : a < 0
    · have h2 : b < 0 := by
        by_cases h2 : b < 0
        · exact h2
        · simp [h1, h2] at h
      exact Int.mul_nonneg_of_nonpos_of_nonpos (by omega) (by omega)
    · have h2 : ¬ b < 0 := by intro h2; simp [h1, h2] at h
      exact Int.mul_nonneg (by omega) (by omega)
  generalize hab : a * b = c at *
  by_cases h1 : ((c.natAbs : Int)) / 18446744073709551616 > 0
  · rw [if_pos h1, intP_no (by omega)]
    simp [word_times.j0]
  · rw [if_neg h1]
    have hl : ((c.natAbs : Int)) % 18446744073709551616 = c.natAbs := by omega
    rw [hl]
    by_cases h2 : ((c.natAbs : Int)) ≥ 1099511627776
    · rw [intP_no (by omega)]
      simp [word_times.j0, h2]
    · simp only [word_times.j0]
      rw [if_neg (by simp [h2]), b_Int, b_Int, wrap64_id (n := (c.natAbs : Int)) (by omega) (by omega), wrap64_id (by omega) (by omega)]
      simp only [Option.bind_some]
      split
      · rename_i h3; have := hs h3
        rw [show -((c.natAbs : Int)) = c by omega]
      · rename_i h3; have := hp h3
        rw [show ((c.natAbs : Int)) = c by omega]
theorem tdiv_bound (x y : Int) (h0 : -1099511627776 < x) (h1 : x < 1099511627776) : -1099511627776 < x.tdiv y ∧ x.tdiv y < 1099511627776 := by
  have := Int.natAbs_tdiv_le_natAbs x y
  omega
theorem b_Do (k : Nat) (op a b : Int) (ha : 0 ≤ a) (ha' : a < 18446744073709551616) (hb : 0 ≤ b) (hb' : b < 18446744073709551616) :
    word_Do.f (k + 4) op a b = some (doP op a b) := by
  have hx := toIntP_range a
  have hy := toIntP_range b
  have j2 : ¬ ((op = 47 ∨ op = 37) ∧ (toIntP b).1 = 0) → (toIntP a).2 = true → (toIntP b).2 = true → isOp op → word_Do.j2 (k + 2) op (toIntP a).1 (toIntP b).1 = some (doP op a b) := by
    intro hz h1 h2 ho
    unfold doP
    rw [if_neg (fun h => h ho), if_neg (by simp [h1, h2]), if_neg hz]
    generalize (toIntP a).1 = x at *
    generalize (toIntP b).1 = y at *
    have := tdiv_bound x y hx.1 hx.2
    simp only [word_Do.j2]
    rcases ho with rfl | rfl | rfl | rfl | rfl | rfl | rfl
    · simp [b_Int, wrap64_id (n := x + y) (by omega) (by omega)]
    · simp [b_Int, wrap64_id (n := x - y) (by omega) (by omega)]
    · simp [b_times k x y hx.1 hx.2 hy.1 hy.2]
    · have : y ≠ 0 := fun h => hz ⟨.inl rfl, h⟩
      simp [this, b_Int, wrap64_id (n := x.tdiv y) (by omega) (by omega)]
    · have : y ≠ 0 := fun h => hz ⟨.inr rfl, h⟩
      simp [this, b_Int]
    · simp [b_Bool]
    · simp [b_Bool]
  have j0 : isOp op → word_Do.j0 (k + 4) op a b = some (doP op a b) := by
    intro ho
    simp only [word_Do.j0]
    rw [b_ToInt a ha ha', b_ToInt b hb hb']
    simp only [Option.bind_some]
    cases h1 : (toIntP a).2 with
    | false => simp [word_Do.j1, doP, ho, h1]
    | true =>
      cases h2 : (toIntP b).2 with
      | false => simp [word_Do.j1, doP, ho, h1, h2]
      | true =>
        by_cases hz : (op = 47 ∨ op = 37) ∧ (toIntP b).1 = 0
        · rcases hz with ⟨h3 | h3, h4⟩ <;> subst h3 <;> simp [isOp, word_Do.j1, doP, h1, h2, h4]
        · have := j2 hz h1 h2 ho
          simp only [Bool.not_true, if_true, word_Do.j1]
          rw [if_neg (by simp)]
          split
          · rename_i h4
            rw [if_neg (fun h => hz ⟨.inl h, h4⟩), if_neg (fun h => hz ⟨.inr h, h4⟩)]; exact this
          · exact this
  unfold word_Do.f
  by_cases ho : isOp op
  · rw [j0 ho]
    rcases ho with rfl | rfl | rfl | rfl | rfl | rfl | rfl <;> simp
  · have : doP op a b = (0, 1) := by unfold doP; rw [if_pos ho]
    rw [this]
    simp only [isOp, not_or] at ho
    simp [ho]
theorem b_shown (k : Nat) : eddywheellaw01_shown.f (k + 4) = some true := by
  have e1 : intP (-1) = (18446744073709551608, 0) := by decide +kernel
  have e2 : intP (-7) = (18446744073709551560, 0) := by decide +kernel
  have e3 : intP 2 = (16, 0) := by decide +kernel
  have e4 : doP 47 18446744073709551560 16 = (18446744073709551592, 0) := by decide +kernel
  have e5 : doP 37 18446744073709551560 16 = (18446744073709551608, 0) := by decide +kernel
  have e6 : toIntP 18446744073709551592 = (-3, true) := by decide +kernel
  have e7 : toIntP 18446744073709551608 = (-1, true) := by decide +kernel
  unfold eddywheellaw01_shown.f
  rw [b_Int, b_Int, b_Int, e1, e2, e3]
  simp only [Option.bind_some]
  rw [b_Do k 47 _ _ (by decide) (by decide) (by decide) (by decide), e4]
  simp only [Option.bind_some]
  rw [b_Do k 37 _ _ (by decide) (by decide) (by decide) (by decide), e5]
  simp only [Option.bind_some]
  rw [b_ToInt _ (by decide) (by decide), b_ToInt _ (by decide) (by decide), e6, e7]
  simp
theorem b_Of (k : Nat) (kd n : Int) (hn : -9223372036854775808 ≤ n) (hn' : n < 9223372036854775808) : word_Of.f (k + 1) kd n = some (ofP kd n) := by
  have key : kd = 1 ∨ kd = 3 ∨ kd = 4 → word_Of.j0 (k + 1) kd n true = some (ofP kd n) := by
    intro hk
    simp only [word_Of.j0, if_true]
    unfold ofP
    by_cases h0 : n ≥ 0
    · by_cases h1 : n < 1099511627776
      · rw [if_pos h0, if_pos h1, if_pos ⟨hk, h0, h1⟩, wrap_u64 n, wrap_u64, wrap_u64, Int.emod_eq_of_lt (a := n) (by omega) (by omega), Int.emod_eq_of_lt (by omega) (by omega), Int.emod_eq_of_lt (a := kd) (by omega) (by omega)]
        rw [u64_or8 (by omega) (by omega) (by omega) (by omega) (by omega)]
      · rw [if_pos h0, if_neg h1, if_neg (fun h => h1 h.2.2)]
    · rw [if_neg h0, if_neg (fun h => h0 h.2.1)]
  unfold word_Of.f
  by_cases h1 : kd = 1
  · rw [if_pos h1, show (kd == 1) = true by simpa using h1]; exact key (.inl h1)
  · by_cases h3 : kd = 3
    · rw [if_neg h1, if_pos h3, show (kd == 3) = true by simpa using h3]; exact key (.inr (.inl h3))
    · by_cases h4 : kd = 4
      · rw [if_neg h1, if_neg h3, show (kd == 4) = true by simpa using h4]; exact key (.inr (.inr h4))
      · rw [if_neg h1, if_neg h3, show (kd == 4) = false by simpa using h4]
        unfold ofP
        rw [if_neg (fun h => by omega)]
        simp [word_Of.j0]
theorem b_To (k : Nat) (kd w : Int) (h0 : 0 ≤ w) (h1 : w < 18446744073709551616) : word_To.f (k + 1) kd w = some (toP kd w) := by
  have key : kd = 1 ∨ kd = 3 ∨ kd = 4 → word_To.j0 (k + 1) kd w true = some (toP kd w) := by
    intro hk
    simp only [word_To.j0, if_true]
    rw [u64_and7 w h0 h1, wrap_u64, Int.emod_eq_of_lt (a := kd) (by omega) (by omega)]
    unfold toP
    by_cases h2 : w % 8 = kd
    · by_cases h3 : w / 8 < 1099511627776
      · rw [if_pos h2, if_pos h3, if_pos ⟨hk, h2, h3⟩, wrap64_id (by omega) (by omega)]
      · rw [if_pos h2, if_neg h3, if_neg (fun h => h3 h.2.2)]
    · rw [if_neg h2, if_neg (fun h => h2 h.2.1)]
  unfold word_To.f
  by_cases h1 : kd = 1
  · rw [if_pos h1, show (kd == 1) = true by simpa using h1]; exact key (.inl h1)
  · by_cases h3 : kd = 3
    · rw [if_neg h1, if_pos h3, show (kd == 3) = true by simpa using h3]; exact key (.inr (.inl h3))
    · by_cases h4 : kd = 4
      · rw [if_neg h1, if_neg h3, show (kd == 4) = true by simpa using h4]; exact key (.inr (.inr h4))
      · rw [if_neg h1, if_neg h3, show (kd == 4) = false by simpa using h4]
        unfold toP
        rw [if_neg (fun h => by omega)]
        simp [word_To.j0]
theorem b_May (k : Nat) (w : Int) (h0 : 0 ≤ w) (h1 : w < 18446744073709551616) : word_May.f (k + 1) w = some (mayP w) := by
  unfold word_May.f mayP
  rw [u64_and7 w h0 h1, wrap64_id (by omega) (by omega), b_ToInt w h0 h1, b_To k _ w h0 h1]
  (repeat' split) <;> rfl
theorem c_Int (n : Int) (w : World) : Calls Try.prog 14 #[.int .i64 n] w fun e w' => e = .returned (.tuple #[.int .u64 (intP n).1, .int .i64 (intP n).2]) ∧ Drawn0 w w' :=
  word_Int.calls n _ _ w (b_Int n)
theorem c_ToInt (x : Int) (w : World) (h0 : 0 ≤ x) (h1 : x < 18446744073709551616) : Calls Try.prog 15 #[.int .u64 x] w fun e w' => e = .returned (.tuple #[.int .i64 (toIntP x).1, .bool (toIntP x).2]) ∧ Drawn0 w w' :=
  word_ToInt.calls x _ _ w (b_ToInt x h0 h1)
theorem c_Do (op a b : Int) (w : World) (ha : 0 ≤ a) (ha' : a < 18446744073709551616) (hb : 0 ≤ b) (hb' : b < 18446744073709551616) :
    Calls Try.prog 11 #[.int .u8 op, .int .u64 a, .int .u64 b] w fun e w' => e = .returned (.tuple #[.int .u64 (doP op a b).1, .int .i64 (doP op a b).2]) ∧ Below w.heap.size w w' :=
  word_Do.calls 4 op a b _ _ w (b_Do 0 op a b ha ha' hb hb')
attribute [local go_sem] max2_int min2_int max_two min_two
open Go.Proofs.Ytfabipoeollidaa.Heap Go.Proofs.Ytfabipoeollidaa.Own Go.Maps
theorem infoW : (Try.prog.info? 23).map (fun i => (i.zero, i.size, i.bytes)) = some (some (.int .u64 0), 1, 8) := by kernel_rfl
theorem underWs : Try.prog.underlying 31 = some (.slice 23) := by kernel_rfl
theorem lawW : Keyed Try.prog 23 := int_keyed Try.underlying23
theorem zeroB (w : World) : (zeroValue 4).run Try.prog w = .ok (.bool false) w := by kernel_rfl
/-- numbers, places and names of one number, and the marks, in the order in which the law lays them -/
def ofK (a : Int) (k : Nat) : List Int := if 0 ≤ a ∧ a < 1099511627776 then [a * 8 + 1, a * 8 + 3, a * 8 + 4].take k else []
def intK (a : Int) : List Int := if (intP a).2 = 0 then [(intP a).1] else []
def allK (a : Int) : List Int := ofK a 3 ++ intK a ++ [2, 18, 10, 26]
theorem all_nodup (a : Int) : (allK a).Nodup := by
  unfold allK ofK intK
  by_cases h : 0 ≤ a ∧ a < 1099511627776
  · rw [if_pos h, intP_yes (by omega), if_pos rfl]
    simp [List.nodup_cons]
    omega
  · rw [if_neg h]
    by_cases h1 : -1099511627776 < a ∧ a < 1099511627776
    · rw [intP_yes h1, if_pos rfl]
      simp [List.nodup_cons]
      omega
    · rw [intP_no h1, if_neg (by decide)]
      decide
theorem all_may (a : Int) : ∀ x ∈ allK a, mayP x = true ∧ 0 ≤ x ∧ x < 18446744073709551616 := by
  intro x hx
  unfold allK at hx
  rcases List.mem_append.1 hx with hx | hx
  · rcases List.mem_append.1 hx with hx | hx
    · unfold ofK at hx
      by_cases h : 0 ≤ a ∧ a < 1099511627776
      · rw [if_pos h] at hx
        simp at hx
        refine ⟨?_, by omega, by omega⟩
        unfold mayP toP
        rcases hx with rfl | rfl | rfl
        · rw [if_neg (by omega), if_neg (by omega), if_pos ⟨by omega, by omega, by omega⟩]
        · rw [if_neg (by omega), if_neg (by omega), if_pos ⟨by omega, by omega, by omega⟩]
        · rw [if_neg (by omega), if_neg (by omega), if_pos ⟨by omega, by omega, by omega⟩]
      · rw [if_neg h] at hx; cases hx
    · unfold intK at hx
      by_cases h : (intP a).2 = 0
      · rw [if_pos h] at hx
        simp at hx
        subst hx
        exact ⟨mayP_intP h, intP_wf a⟩
      · rw [if_neg h] at hx; cases hx
  · simp at hx
    rcases hx with rfl | rfl | rfl | rfl <;> decide
theorem c_OfK (a kd : Int) (w : World) (ha : -9223372036854775808 ≤ a) (ha' : a < 9223372036854775808) :
    Calls Try.prog 18 #[.int .i64 kd, .int .i64 a] w fun e w' => e = .returned (.tuple #[.int .u64 (ofP kd a).1, .int .i64 (ofP kd a).2]) ∧ Drawn0 w w' :=
  word_Of.calls 4 kd a _ _ w (b_Of 3 kd a ha ha')
theorem ofK_step (a : Int) (k : Nat) (kd : Int) (hk : ([1, 3, 4] : List Int)[k]? = some kd) : (0 ≤ a ∧ a < 1099511627776 → ofP kd a = (a * 8 + kd, 0) ∧ ofK a (k + 1) = ofK a k ++ [a * 8 + kd]) ∧ (¬ (0 ≤ a ∧ a < 1099511627776) → ofP kd a = (0, 1) ∧ ofK a (k + 1) = ofK a k) := by
  unfold ofK ofP
  have hkd : kd = 1 ∨ kd = 3 ∨ kd = 4 := by
    rcases k with _ | _ | _ | k <;> simp at hk <;> omega
  refine ⟨fun h => ?_, fun h => ?_⟩
  · rw [if_pos ⟨hkd, h⟩, if_pos h, if_pos h]
    refine ⟨rfl, ?_⟩
    rcases k with _ | _ | _ | k <;> simp at hk <;> subst hk <;> simp
  · rw [if_neg (fun hh => h hh.2), if_neg h, if_neg h]
    exact ⟨rfl, rfl⟩
theorem lookB {H : Type} {w : World} {b n : Nat} {D : DataW H} (h : w.ownsMap Try.prog 23 (plainElem Try.prog 4) b n D) (x : Int) (hx : (Lit.int .u64 x).wf = true) (hD : D.atKey (.int .u64 x) (.lit (.bool false)) = .lit (.bool false)) :
    (Instr.lookup 42 (.map (some b)) (.int .u64 x) false).run Try.prog w = .ok (.bool false) w := by
  obtain ⟨v, ps, hrun, hv⟩ := h.lookup lawW Try.underlying42 (zeroB w) (plainElem_bool Try.underlying4 false) (keyOf_int_mk Try.underlying23 hx)
  rw [hD] at hv
  rw [hrun]
  have hu := Try.underlying4
  unfold plainElem at hv
  rw [hu] at hv
  cases v <;> simp at hv
  obtain ⟨rfl, _⟩ := hv
  rfl
theorem c_MayY (x : Int) (w : World) (h0 : 0 ≤ x) (h1 : x < 18446744073709551616) (h : mayP x = true) : Calls Try.prog 25 #[.int .u64 x] w fun e w' => e = .returned (.bool true) ∧ ∃ n, w' = w.drewN n :=
  (word_May.calls 5 x true w (by rw [b_May 4 x h0 h1, h])).mono fun _ _ h => ⟨h.1, h.2.out⟩
theorem chg_drawn {w w' : World} (h : Drawn0 w w') : Chg [] w w' := by obtain ⟨⟨n, rfl⟩⟩ := h; exact (Chg.refl [] w).draw n
theorem chg_map {w w' : World} {b : Nat} (h : w.grownBy w' (some b)) : Chg [b] w w' :=
  ⟨h.os, h.tape, h.output, h.size, fun k hk hn => h.block k hk (fun e => hn (by simp at e; simp [e]))⟩
set_option maxHeartbeats 4000000 in
theorem walk (a b : Int) (w : World) (ha : (Lit.int .i64 a).wf = true) (_hb : (Lit.int .i64 b).wf = true) :
    Calls Try.prog 10 #[.int .i64 a, .int .i64 b] w fun e w' => e = .returned (.bool true) ∧ Below w.heap.size w w' := by
  obtain ⟨a0, a1⟩ := wf_i64 ha
  clear ha
  have hIa := fun w => c_Int a w
  have hIb := fun w => c_Int b w
  have hinj : (intP a).2 = 0 → (intP b).2 = 0 → ((intP a).1 = (intP b).1 ↔ a = b) := fun h1 h2 => ⟨intP_inj h1 h2, fun h => by rw [h]⟩
  have HIK : Hid (intK a = if (intP a).2 = 0 then [(intP a).1] else []) := Lib.hid rfl
  generalize intP a = ia at *
  generalize intP b = ib at *
  obtain ⟨x, e1⟩ := ia
  obtain ⟨y, e2⟩ := ib
  simp only at hIa hIb hinj HIK
  go_enter Try.func10, Try.ntmps10
  go_wp2_with fail
  refine (eddywheellaw01_shown.calls 4 true _ (b_shown 0)).mono ?_
  rintro e w1 ⟨rfl, hb1⟩
  go_wp2_with fail
  refine (hIa _).mono ?_
  rintro e w2 ⟨rfl, hd2⟩
  go_wp2_with fail
  refine (hIb _).mono ?_
  rintro e w3 ⟨rfl, hd3⟩
  have hC3 : Chg [] w w3 := ((Chg.of_below hb1).same (chg_drawn hd2)).same (chg_drawn hd3)
  clear hb1 hd2 hd3 hIa hIb
  by_cases h1 : e1 = 0
  · subst h1
    have t3 : e2 = 0 → (x == y) = (a == b) := fun h => by
      have := hinj rfl h
      by_cases hq : a = b
      · simp [hq, this.2 hq]
      · have : x ≠ y := fun hh => hq (this.1 hh)
        rw [beq_eq_false_iff_ne.2 hq, beq_eq_false_iff_ne.2 this]
    by_cases h2 : e2 = 0
    · subst h2
      have t3 := t3 rfl
      clear hinj
      go_upto_region 7 with fail
      go_wp2_with fail
      have hlit : (w3.alloc (.cells #[Value.int .i64 1, .int .i64 3, .int .i64 4] 3)).heap[w3.heap.size]? = some (.cells #[Value.int .i64 1, .int .i64 3, .int .i64 4] 3 (0, 0)) := Heap.blk_new rfl
      have hCW : Chg [] w (w3.alloc (.cells #[Value.int .i64 1, .int .i64 3, .int .i64 4] 3)) := hC3.alloc _
      generalize w3.alloc (.cells #[Value.int .i64 1, .int .i64 3, .int .i64 4] 3) = W2 at *
      generalize w3.heap.size = tb at *
      obtain ⟨wb, hwb⟩ : ∃ wb, wb = W2.heap.size := ⟨_, rfl⟩
      go_loopw [46, 10] (fun i v wr => ∃ (k n : Nat) (B : Option Addr) (c : Nat), k ≤ 3 ∧ i = .int .i64 k ∧ v = .slice B n c ∧ Hid (n = (ofK a k).length) ∧ n ≤ k ∧ wr.ownsRow wb 23 1 (.slice B n c) n (Heap.nums .u64 (ofK a k)) ∧ Chg [] W2 wr) (fun i _ _ => 3 - (intOf i).toNat)
      case atStart => exact ⟨0, 0, none, 0, by decide, rfl, rfl, Lib.hid (by unfold ofK; split <;> rfl), Nat.le_refl _, by rw [show ofK a 0 = [] by unfold ofK; split <;> rfl]; exact World.ownsRow_nil _ _ _ _, Chg.refl _ _⟩
      case round =>
        obtain ⟨k, n, B, c, hk, rfl, rfl, HN, hnk, hor, hcr⟩ := hrel
        have hsz := hcr.size
        by_cases hlt : k < 3
        · obtain ⟨kd, hkd⟩ : ∃ kd, ([1, 3, 4] : List Int)[k]? = some kd := ⟨_, List.getElem?_eq_getElem (by simpa using hlt)⟩
          have hcell : wr.cell? ⟨tb, k, none⟩ = some (.int .i64 kd) := by
            rw [Heap.blk_cell (hcr.at hlit (by simp))]
            rcases (show k = 0 ∨ k = 1 ∨ k = 2 by omega) with rfl | rfl | rfl <;> (simp at hkd; subst hkd; rfl)
          have hOF := fun w => c_OfK a kd w a0 a1
          obtain ⟨st1, st2⟩ := ofK_step a k kd hkd
          have HO := Lib.hid hor
          have HC := Lib.hid hcr
          have HHN := HN
          have HB : Hid (∀ b', b' ∈ ob (.slice B n c) → b' ∈ ([] : List Nat) ∨ W2.heap.size ≤ b') := Lib.hid (fun b' hb' => .inr (by rw [← hwb]; exact (hor.lt b' (mem_ob.1 hb')).1))
          clear hor hcr hkd
          by_cases hR : 0 ≤ a ∧ a < 1099511627776
          · obtain ⟨q1, q2⟩ := st1 hR
            rw [q1] at hOF
            clear st1 st2 hR q1
            have q2' := Lib.hid q2
            clear q2
            go_upto_region 11 with (go_at_call 18; refine (hOF _).mono ?_; rintro e w4 ⟨rfl, hd4⟩)
            have HO := Lib.hid (own_keep HO.out (chg_drawn hd4) (fun _ _ hm => by cases hm))
            have HC := Lib.hid (HC.out.same (chg_drawn hd4))
            have hsz4 := (chg_drawn hd4).size
            have HSN : Hid (∀ v : Value, Src (w4.alloc (.cells #[v] 23)) 1 (.slice (some ⟨w4.heap.size, 0, none⟩) 1 1) 1 [v]) := Lib.hid fun v => src_new [v] 23 1 1 1 w4.heap.size rfl rfl
            clear hd4 hOF
            go_wp2_with (at_builtin; refine app rfl (.tmp 58) (.tmp 60) 31 rfl wb 23 _ 1 8 underWs infoW rfl (by decide) (by decide) _ n _ rfl (HO.out.alloc _) _ 1 _ rfl (HSN.out _) (by intro u hu; simp at hu; subst hu; rfl) (by simp; omega) (by omega) ?_; intro B2 c2 w5 ho5 hc5 _)
            go_roundw
            case rel =>
              refine ⟨k + 1, n + 1, B2, c2, by omega, by go_num, rfl, Lib.hid (by rw [q2'.out, HHN.out]; simp), by omega, ?_, (HC.out.alloc _).trans hc5 HB.out⟩
              rw [q2'.out]
              simpa [Heap.nums] using ho5
            case measure => simp [intOf]; omega
          · obtain ⟨q1, q2⟩ := st2 hR
            rw [q1] at hOF
            clear st1 st2 hR q1
            have q2' := Lib.hid q2
            clear q2
            go_upto_region 11 with (go_at_call 18; refine (hOF _).mono ?_; rintro e w4 ⟨rfl, hd4⟩)
            have HO := Lib.hid (own_keep HO.out (chg_drawn hd4) (fun _ _ hm => by cases hm))
            have HC := Lib.hid (HC.out.same (chg_drawn hd4))
            clear hd4 hOF
            go_wp2_with fail
            go_roundw
            case rel => exact ⟨k + 1, n, B, c, by omega, by go_num, rfl, Lib.hid (by rw [q2'.out, HHN.out]), by omega, by rw [q2'.out]; exact HO.out, HC.out⟩
            case measure => simp [intOf]; omega
        · obtain rfl : k = 3 := by omega
          have hnd := Lib.hid (all_nodup a)
          have hmy := Lib.hid (all_may a)
          have HO := Lib.hid hor
          have HC := Lib.hid hcr
          have HB : Hid (∀ b', b' ∈ ob (.slice B n c) → b' ∈ ([] : List Nat) ∨ W2.heap.size ≤ b') := Lib.hid (fun b' hb' => .inr (by rw [← hwb]; exact (hor.lt b' (mem_ob.1 hb')).1))
          have HN3 := HN
          clear hor hcr HN hlit
          have hik : intK a = [x] := by rw [HIK.out]; simp
          have HSN : Hid (∀ v : Value, Src (wr.alloc (.cells #[v] 23)) 1 (.slice (some ⟨wr.heap.size, 0, none⟩) 1 1) 1 [v]) := Lib.hid fun v => src_new [v] 23 1 1 1 wr.heap.size rfl rfl
          have HIK' := Lib.hid hik
          clear hik
          go_upto_region 16 with (at_builtin; refine app rfl (.tmp 65) (.tmp 67) 31 rfl wb 23 _ 1 8 underWs infoW rfl (by decide) (by decide) _ n _ rfl (HO.out.alloc _) _ 1 _ rfl (HSN.out _) (by intro u hu; simp at hu; subst hu; rfl) (by simp; omega) (by omega) ?_; intro B1 c1 w5 ho5 hc5 _)
          have HO1 : Hid (w5.ownsRow wb 23 1 (.slice B1 (n + 1) c1) (n + 1) (Heap.nums .u64 (ofK a 3 ++ intK a))) := Lib.hid (by rw [HIK'.out]; simpa [Heap.nums] using ho5)
          have HC1 : Hid (Chg [] W2 w5) := Lib.hid ((HC.out.alloc _).trans hc5 HB.out)
          have HB1 : Hid (∀ b', b' ∈ ob (.slice B1 (n + 1) c1) → b' ∈ ([] : List Nat) ∨ W2.heap.size ≤ b') := Lib.hid (fun b' hb' => .inr (by rw [← hwb]; exact (ho5.lt b' (mem_ob.1 hb')).1))
          have hw5 : wb ≤ w5.heap.size := by have := hc5.size; simp at this; omega
          clear ho5 hc5 HO HC HB HN3 HSN
          obtain ⟨n1, hn1⟩ : ∃ n1, n + 1 = n1 := ⟨_, rfl⟩
          rw [hn1] at HO1 HB1
          rw [hn1]
          have hn14 : n1 ≤ 4 := by omega
          clear hn1
          have HSN4 : Hid (Src (w5.alloc (.cells #[.int .u64 2, .int .u64 18, .int .u64 10, .int .u64 26] 23)) 1 (.slice (some ⟨w5.heap.size, 0, none⟩) 4 4) 4 [.int .u64 2, .int .u64 18, .int .u64 10, .int .u64 26]) := Lib.hid (src_new [.int .u64 2, .int .u64 18, .int .u64 10, .int .u64 26] 23 1 4 4 w5.heap.size rfl rfl)
          go_upto_region 17 with (at_builtin; refine app rfl (.tmp 69) (.tmp 70) 31 rfl wb 23 _ 1 8 underWs infoW rfl (by decide) (by decide) _ n1 _ rfl (HO1.out.alloc _) _ 4 _ rfl (HSN4.out) (by intro u hu; simp at hu; rcases hu with rfl | rfl | rfl | rfl <;> rfl) (by simp; omega) (by omega) ?_; intro B6 c6 w6 ho6 hc6 _)
          have HO6 : Hid (w6.ownsRow wb 23 1 (.slice B6 (n1 + 4) c6) (n1 + 4) (Heap.nums .u64 (allK a))) := Lib.hid (by
            have e : Heap.nums .u64 (allK a) = Heap.nums .u64 (ofK a 3 ++ intK a) ++ [.int .u64 2, .int .u64 18, .int .u64 10, .int .u64 26] := by simp [allK, Heap.nums]
            rw [e]; exact ho6)
          have HC6 : Hid (Chg [] w w6) := Lib.hid (hCW.same ((HC1.out.alloc _).trans hc6 HB1.out))
          have hwb6 : wb ≤ w6.heap.size := by have := hc6.size; simp at this; omega
          clear ho6 hc6 HO1 HC1 HB1 HSN4
          obtain ⟨m, hm⟩ : ∃ m, n1 + 4 = m := ⟨_, rfl⟩
          have hm8 : m ≤ 8 := by omega
          have hLen : (allK a).length = m := by have := HO6.out.1; rw [hm] at this; simpa [Heap.nums] using this
          rw [hm] at HO6
          rw [hm]
          have hmm := @run_makeMap Try.prog
          go_upto_region 18 with fail
          clear hmm
          have hmade := World.ownsMap_made (H := Unit) w6 Try.prog 23 (plainElem Try.prog 4)
          have HO7 : Hid ((w6.alloc (.map #[] 0)).ownsRow wb 23 1 (.slice B6 m c6) m (Heap.nums .u64 (allK a))) := Lib.hid (HO6.out.alloc _)
          have HC7 : Hid (Chg [] w (w6.alloc (.map #[] 0))) := Lib.hid (HC6.out.alloc _)
          have hmbF : Hid (∀ b', (Value.slice B6 m c6).ownBlock = some b' → b' ∉ [w6.heap.size]) := Lib.hid (fun b' hb' hm' => by have := (HO6.out.lt b' hb').2; simp at hm'; omega)
          have hmbw : w.heap.size ≤ w6.heap.size := HC6.out.size
          clear HO6 HC6 hm
          generalize w6.alloc (.map #[] 0) = W7 at *
          generalize w6.heap.size = mb at *
          have HMADE := Lib.hid hmade
          clear hmade
          go_wp2_with fail
          go_loopw [75] (fun i wx => ∃ (j : Nat) (D : DataW Unit), j ≤ m ∧ i = .int .i64 j ∧ wx.ownsMap Try.prog 23 (plainElem Try.prog 4) mb j D ∧ Hid (∀ z ∈ (allK a).drop j, D.atKey (.int .u64 z) (.lit (.bool false)) = .lit (.bool false)) ∧ Chg [mb] W7 wx) (fun i _ => m - (intOf i).toNat)
          case atStart => exact ⟨0, _, Nat.zero_le _, rfl, HMADE.out, Lib.hid (fun _ _ => rfl), Chg.refl _ _⟩
          case round =>
            obtain ⟨j, D, hj, rfl, hown, hD, hcx⟩ := hrel
            by_cases hlt : j < m
            · obtain ⟨z, hz⟩ : ∃ z, (allK a)[j]? = some z := ⟨_, List.getElem?_eq_getElem (by omega)⟩
              have hdr : (allK a).drop j = z :: (allK a).drop (j + 1) := by
                rw [List.drop_eq_getElem_cons (by omega)]
                have := List.getElem?_eq_some_iff.1 hz
                rw [this.2]
              have hzm := hmy.out z (List.mem_of_getElem? hz)
              have hwf : (Lit.int .u64 z).wf = true := by simp [Lit.wf, IntKind.min, IntKind.max, IntKind.signed, IntKind.bits]; omega
              have hne : ∀ y' ∈ (allK a).drop (j + 1), y' ≠ z := by
                have h0 := hnd.out.sublist (List.drop_sublist j (allK a))
                rw [hdr, List.nodup_cons] at h0
                exact fun y' hy' he => h0.1 (he ▸ hy')
              have hD' := hD.out
              rw [hdr] at hD'
              have hrun0 := lookB (w := wr) (b := mb) (n := j) (D := D) hown z hwf (hD' z (by simp))
              have hkey : keyOf Try.prog 23 (.int .u64 z) = some (.int .u64 z) := keyOf_int_mk Try.underlying23 hwf
              have hor := own_keep HO7.out hcx hmbF.out
              obtain ⟨gb, gc, hA, _, _, _, _, hcell⟩ := own_at hor (by omega)
              simp only [Value.slice.injEq] at hA
              obtain ⟨rfl, _, rfl⟩ := hA
              have hzc := (hcell j (.int .u64 z) (by simp [Heap.nums, hz])).1
              have HOWN := Lib.hid hown
              have HCX := Lib.hid hcx
              have HDD : Hid (∀ y' ∈ (allK a).drop (j + 1), (D.put (.int .u64 z) (.lit (.bool true))).atKey (.int .u64 y') (.lit (.bool false)) = .lit (.bool false)) := Lib.hid (fun y' hy' => by
                rw [atKey_put_other (by have := hne y' hy'; simpa using this)]
                exact hD' y' (List.mem_cons_of_mem _ hy'))
              have hMAY := fun w => c_MayY z w hzm.2.1 hzm.2.2 hzm.1
              clear hown hcx hD hD' hdr hne hz hzm hcell hor
              go_upto_region 23 with (go_at_call 25; refine (hMAY _).mono ?_; rintro e w8 ⟨rfl, n8, rfl⟩)
              go_wp2_with (at_mapUpdate; refine wpList_mapUpdate_own _ rfl _ _ _ 42 rfl 23 4 lawW Try.underlying42 _ mb j _ rfl HOWN.out (by unfold maxLen; omega) _ _ _ rfl rfl hkey _ [] (plainElem_bool Try.underlying4 true) ?_; intro w9 hown9 hgrow9)
              go_roundw
              case rel => exact ⟨j + 1, _, by omega, by go_num, hown9, HDD, (HCX.out.draw _).same (chg_map hgrow9)⟩
              case measure => simp [intOf]; omega
            · have HF : Hid (Chg [] w wr) := Lib.hid (HC7.out.trans hcx (fun b' hb' => .inr (by simp at hb'; omega)))
              clear hown hcx hD
              go_wp2_with fail
              go_ret
              exact ⟨rfl, HF.out.below⟩
    · have t2 : (e2 == 0) = false := by simpa using h2
      clear hinj t3
      go_upto_region 7 with fail
      go_wp2_with fail
      have hlit : (w3.alloc (.cells #[Value.int .i64 1, .int .i64 3, .int .i64 4] 3)).heap[w3.heap.size]? = some (.cells #[Value.int .i64 1, .int .i64 3, .int .i64 4] 3 (0, 0)) := Heap.blk_new rfl
      have hCW : Chg [] w (w3.alloc (.cells #[Value.int .i64 1, .int .i64 3, .int .i64 4] 3)) := hC3.alloc _
      generalize w3.alloc (.cells #[Value.int .i64 1, .int .i64 3, .int .i64 4] 3) = W2 at *
      generalize w3.heap.size = tb at *
      obtain ⟨wb, hwb⟩ : ∃ wb, wb = W2.heap.size := ⟨_, rfl⟩
      go_loopw [46, 10] (fun i v wr => ∃ (k n : Nat) (B : Option Addr) (c : Nat), k ≤ 3 ∧ i = .int .i64 k ∧ v = .slice B n c ∧ Hid (n = (ofK a k).length) ∧ n ≤ k ∧ wr.ownsRow wb 23 1 (.slice B n c) n (Heap.nums .u64 (ofK a k)) ∧ Chg [] W2 wr) (fun i _ _ => 3 - (intOf i).toNat)
      case atStart => exact ⟨0, 0, none, 0, by decide, rfl, rfl, Lib.hid (by unfold ofK; split <;> rfl), Nat.le_refl _, by rw [show ofK a 0 = [] by unfold ofK; split <;> rfl]; exact World.ownsRow_nil _ _ _ _, Chg.refl _ _⟩
      case round =>
        obtain ⟨k, n, B, c, hk, rfl, rfl, HN, hnk, hor, hcr⟩ := hrel
        have hsz := hcr.size
        by_cases hlt : k < 3
        · obtain ⟨kd, hkd⟩ : ∃ kd, ([1, 3, 4] : List Int)[k]? = some kd := ⟨_, List.getElem?_eq_getElem (by simpa using hlt)⟩
          have hcell : wr.cell? ⟨tb, k, none⟩ = some (.int .i64 kd) := by
            rw [Heap.blk_cell (hcr.at hlit (by simp))]
            rcases (show k = 0 ∨ k = 1 ∨ k = 2 by omega) with rfl | rfl | rfl <;> (simp at hkd; subst hkd; rfl)
          have hOF := fun w => c_OfK a kd w a0 a1
          obtain ⟨st1, st2⟩ := ofK_step a k kd hkd
          have HO := Lib.hid hor
          have HC := Lib.hid hcr
          have HHN := HN
          have HB : Hid (∀ b', b' ∈ ob (.slice B n c) → b' ∈ ([] : List Nat) ∨ W2.heap.size ≤ b') := Lib.hid (fun b' hb' => .inr (by rw [← hwb]; exact (hor.lt b' (mem_ob.1 hb')).1))
          clear hor hcr hkd
          by_cases hR : 0 ≤ a ∧ a < 1099511627776
          · obtain ⟨q1, q2⟩ := st1 hR
            rw [q1] at hOF
            clear st1 st2 hR q1
            have q2' := Lib.hid q2
            clear q2
            go_upto_region 11 with (go_at_call 18; refine (hOF _).mono ?_; rintro e w4 ⟨rfl, hd4⟩)
            have HO := Lib.hid (own_keep HO.out (chg_drawn hd4) (fun _ _ hm => by cases hm))
            have HC := Lib.hid (HC.out.same (chg_drawn hd4))
            have hsz4 := (chg_drawn hd4).size
            have HSN : Hid (∀ v : Value, Src (w4.alloc (.cells #[v] 23)) 1 (.slice (some ⟨w4.heap.size, 0, none⟩) 1 1) 1 [v]) := Lib.hid fun v => src_new [v] 23 1 1 1 w4.heap.size rfl rfl
            clear hd4 hOF
            go_wp2_with (at_builtin; refine app rfl (.tmp 58) (.tmp 60) 31 rfl wb 23 _ 1 8 underWs infoW rfl (by decide) (by decide) _ n _ rfl (HO.out.alloc _) _ 1 _ rfl (HSN.out _) (by intro u hu; simp at hu; subst hu; rfl) (by simp; omega) (by omega) ?_; intro B2 c2 w5 ho5 hc5 _)
            go_roundw
            case rel =>
              refine ⟨k + 1, n + 1, B2, c2, by omega, by go_num, rfl, Lib.hid (by rw [q2'.out, HHN.out]; simp), by omega, ?_, (HC.out.alloc _).trans hc5 HB.out⟩
              rw [q2'.out]
              simpa [Heap.nums] using ho5
            case measure => simp [intOf]; omega
          · obtain ⟨q1, q2⟩ := st2 hR
            rw [q1] at hOF
            clear st1 st2 hR q1
            have q2' := Lib.hid q2
            clear q2
            go_upto_region 11 with (go_at_call 18; refine (hOF _).mono ?_; rintro e w4 ⟨rfl, hd4⟩)
            have HO := Lib.hid (own_keep HO.out (chg_drawn hd4) (fun _ _ hm => by cases hm))
            have HC := Lib.hid (HC.out.same (chg_drawn hd4))
            clear hd4 hOF
            go_wp2_with fail
            go_roundw
            case rel => exact ⟨k + 1, n, B, c, by omega, by go_num, rfl, Lib.hid (by rw [q2'.out, HHN.out]), by omega, by rw [q2'.out]; exact HO.out, HC.out⟩
            case measure => simp [intOf]; omega
        · obtain rfl : k = 3 := by omega
          have hnd := Lib.hid (all_nodup a)
          have hmy := Lib.hid (all_may a)
          have HO := Lib.hid hor
          have HC := Lib.hid hcr
          have HB : Hid (∀ b', b' ∈ ob (.slice B n c) → b' ∈ ([] : List Nat) ∨ W2.heap.size ≤ b') := Lib.hid (fun b' hb' => .inr (by rw [← hwb]; exact (hor.lt b' (mem_ob.1 hb')).1))
          have HN3 := HN
          clear hor hcr HN hlit
          have hik : intK a = [x] := by rw [HIK.out]; simp
          have HSN : Hid (∀ v : Value, Src (wr.alloc (.cells #[v] 23)) 1 (.slice (some ⟨wr.heap.size, 0, none⟩) 1 1) 1 [v]) := Lib.hid fun v => src_new [v] 23 1 1 1 wr.heap.size rfl rfl
          have HIK' := Lib.hid hik
          clear hik
          go_upto_region 16 with (at_builtin; refine app rfl (.tmp 65) (.tmp 67) 31 rfl wb 23 _ 1 8 underWs infoW rfl (by decide) (by decide) _ n _ rfl (HO.out.alloc _) _ 1 _ rfl (HSN.out _) (by intro u hu; simp at hu; subst hu; rfl) (by simp; omega) (by omega) ?_; intro B1 c1 w5 ho5 hc5 _)
          have HO1 : Hid (w5.ownsRow wb 23 1 (.slice B1 (n + 1) c1) (n + 1) (Heap.nums .u64 (ofK a 3 ++ intK a))) := Lib.hid (by rw [HIK'.out]; simpa [Heap.nums] using ho5)
          have HC1 : Hid (Chg [] W2 w5) := Lib.hid ((HC.out.alloc _).trans hc5 HB.out)
          have HB1 : Hid (∀ b', b' ∈ ob (.slice B1 (n + 1) c1) → b' ∈ ([] : List Nat) ∨ W2.heap.size ≤ b') := Lib.hid (fun b' hb' => .inr (by rw [← hwb]; exact (ho5.lt b' (mem_ob.1 hb')).1))
          have hw5 : wb ≤ w5.heap.size := by have := hc5.size; simp at this; omega
          clear ho5 hc5 HO HC HB HN3 HSN
          obtain ⟨n1, hn1⟩ : ∃ n1, n + 1 = n1 := ⟨_, rfl⟩
          rw [hn1] at HO1 HB1
          rw [hn1]
          have hn14 : n1 ≤ 4 := by omega
          clear hn1
          have HSN4 : Hid (Src (w5.alloc (.cells #[.int .u64 2, .int .u64 18, .int .u64 10, .int .u64 26] 23)) 1 (.slice (some ⟨w5.heap.size, 0, none⟩) 4 4) 4 [.int .u64 2, .int .u64 18, .int .u64 10, .int .u64 26]) := Lib.hid (src_new [.int .u64 2, .int .u64 18, .int .u64 10, .int .u64 26] 23 1 4 4 w5.heap.size rfl rfl)
          go_upto_region 17 with (at_builtin; refine app rfl (.tmp 69) (.tmp 70) 31 rfl wb 23 _ 1 8 underWs infoW rfl (by decide) (by decide) _ n1 _ rfl (HO1.out.alloc _) _ 4 _ rfl (HSN4.out) (by intro u hu; simp at hu; rcases hu with rfl | rfl | rfl | rfl <;> rfl) (by simp; omega) (by omega) ?_; intro B6 c6 w6 ho6 hc6 _)
          have HO6 : Hid (w6.ownsRow wb 23 1 (.slice B6 (n1 + 4) c6) (n1 + 4) (Heap.nums .u64 (allK a))) := Lib.hid (by
            have e : Heap.nums .u64 (allK a) = Heap.nums .u64 (ofK a 3 ++ intK a) ++ [.int .u64 2, .int .u64 18, .int .u64 10, .int .u64 26] := by simp [allK, Heap.nums]
            rw [e]; exact ho6)
          have HC6 : Hid (Chg [] w w6) := Lib.hid (hCW.same ((HC1.out.alloc _).trans hc6 HB1.out))
          have hwb6 : wb ≤ w6.heap.size := by have := hc6.size; simp at this; omega
          clear ho6 hc6 HO1 HC1 HB1 HSN4
          obtain ⟨m, hm⟩ : ∃ m, n1 + 4 = m := ⟨_, rfl⟩
          have hm8 : m ≤ 8 := by omega
          have hLen : (allK a).length = m := by have := HO6.out.1; rw [hm] at this; simpa [Heap.nums] using this
          rw [hm] at HO6
          rw [hm]
          have hmm := @run_makeMap Try.prog
          go_upto_region 18 with fail
          clear hmm
          have hmade := World.ownsMap_made (H := Unit) w6 Try.prog 23 (plainElem Try.prog 4)
          have HO7 : Hid ((w6.alloc (.map #[] 0)).ownsRow wb 23 1 (.slice B6 m c6) m (Heap.nums .u64 (allK a))) := Lib.hid (HO6.out.alloc _)
          have HC7 : Hid (Chg [] w (w6.alloc (.map #[] 0))) := Lib.hid (HC6.out.alloc _)
          have hmbF : Hid (∀ b', (Value.slice B6 m c6).ownBlock = some b' → b' ∉ [w6.heap.size]) := Lib.hid (fun b' hb' hm' => by have := (HO6.out.lt b' hb').2; simp at hm'; omega)
          have hmbw : w.heap.size ≤ w6.heap.size := HC6.out.size
          clear HO6 HC6 hm
          generalize w6.alloc (.map #[] 0) = W7 at *
          generalize w6.heap.size = mb at *
          have HMADE := Lib.hid hmade
          clear hmade
          go_wp2_with fail
          go_loopw [75] (fun i wx => ∃ (j : Nat) (D : DataW Unit), j ≤ m ∧ i = .int .i64 j ∧ wx.ownsMap Try.prog 23 (plainElem Try.prog 4) mb j D ∧ Hid (∀ z ∈ (allK a).drop j, D.atKey (.int .u64 z) (.lit (.bool false)) = .lit (.bool false)) ∧ Chg [mb] W7 wx) (fun i _ => m - (intOf i).toNat)
          case atStart => exact ⟨0, _, Nat.zero_le _, rfl, HMADE.out, Lib.hid (fun _ _ => rfl), Chg.refl _ _⟩
          case round =>
            obtain ⟨j, D, hj, rfl, hown, hD, hcx⟩ := hrel
            by_cases hlt : j < m
            · obtain ⟨z, hz⟩ : ∃ z, (allK a)[j]? = some z := ⟨_, List.getElem?_eq_getElem (by omega)⟩
              have hdr : (allK a).drop j = z :: (allK a).drop (j + 1) := by
                rw [List.drop_eq_getElem_cons (by omega)]
                have := List.getElem?_eq_some_iff.1 hz
                rw [this.2]
              have hzm := hmy.out z (List.mem_of_getElem? hz)
              have hwf : (Lit.int .u64 z).wf = true := by simp [Lit.wf, IntKind.min, IntKind.max, IntKind.signed, IntKind.bits]; omega
              have hne : ∀ y' ∈ (allK a).drop (j + 1), y' ≠ z := by
                have h0 := hnd.out.sublist (List.drop_sublist j (allK a))
                rw [hdr, List.nodup_cons] at h0
                exact fun y' hy' he => h0.1 (he ▸ hy')
              have hD' := hD.out
              rw [hdr] at hD'
              have hrun0 := lookB (w := wr) (b := mb) (n := j) (D := D) hown z hwf (hD' z (by simp))
              have hkey : keyOf Try.prog 23 (.int .u64 z) = some (.int .u64 z) := keyOf_int_mk Try.underlying23 hwf
              have hor := own_keep HO7.out hcx hmbF.out
              obtain ⟨gb, gc, hA, _, _, _, _, hcell⟩ := own_at hor (by omega)
              simp only [Value.slice.injEq] at hA
              obtain ⟨rfl, _, rfl⟩ := hA
              have hzc := (hcell j (.int .u64 z) (by simp [Heap.nums, hz])).1
              have HOWN := Lib.hid hown
              have HCX := Lib.hid hcx
              have HDD : Hid (∀ y' ∈ (allK a).drop (j + 1), (D.put (.int .u64 z) (.lit (.bool true))).atKey (.int .u64 y') (.lit (.bool false)) = .lit (.bool false)) := Lib.hid (fun y' hy' => by
                rw [atKey_put_other (by have := hne y' hy'; simpa using this)]
                exact hD' y' (List.mem_cons_of_mem _ hy'))
              have hMAY := fun w => c_MayY z w hzm.2.1 hzm.2.2 hzm.1
              clear hown hcx hD hD' hdr hne hz hzm hcell hor
              go_upto_region 23 with (go_at_call 25; refine (hMAY _).mono ?_; rintro e w8 ⟨rfl, n8, rfl⟩)
              go_wp2_with (at_mapUpdate; refine wpList_mapUpdate_own _ rfl _ _ _ 42 rfl 23 4 lawW Try.underlying42 _ mb j _ rfl HOWN.out (by unfold maxLen; omega) _ _ _ rfl rfl hkey _ [] (plainElem_bool Try.underlying4 true) ?_; intro w9 hown9 hgrow9)
              go_roundw
              case rel => exact ⟨j + 1, _, by omega, by go_num, hown9, HDD, (HCX.out.draw _).same (chg_map hgrow9)⟩
              case measure => simp [intOf]; omega
            · have HF : Hid (Chg [] w wr) := Lib.hid (HC7.out.trans hcx (fun b' hb' => .inr (by simp at hb'; omega)))
              clear hown hcx hD
              go_wp2_with fail
              go_ret
              exact ⟨rfl, HF.out.below⟩
  · have t1 : (e1 == 0) = false := by simpa using h1
    clear hinj
    go_upto_region 7 with fail
    go_wp2_with fail
    have hlit : (w3.alloc (.cells #[Value.int .i64 1, .int .i64 3, .int .i64 4] 3)).heap[w3.heap.size]? = some (.cells #[Value.int .i64 1, .int .i64 3, .int .i64 4] 3 (0, 0)) := Heap.blk_new rfl
    have hCW : Chg [] w (w3.alloc (.cells #[Value.int .i64 1, .int .i64 3, .int .i64 4] 3)) := hC3.alloc _
    generalize w3.alloc (.cells #[Value.int .i64 1, .int .i64 3, .int .i64 4] 3) = W2 at *
    generalize w3.heap.size = tb at *
    obtain ⟨wb, hwb⟩ : ∃ wb, wb = W2.heap.size := ⟨_, rfl⟩
    go_loopw [46, 10] (fun i v wr => ∃ (k n : Nat) (B : Option Addr) (c : Nat), k ≤ 3 ∧ i = .int .i64 k ∧ v = .slice B n c ∧ Hid (n = (ofK a k).length) ∧ n ≤ k ∧ wr.ownsRow wb 23 1 (.slice B n c) n (Heap.nums .u64 (ofK a k)) ∧ Chg [] W2 wr) (fun i _ _ => 3 - (intOf i).toNat)
    case atStart => exact ⟨0, 0, none, 0, by decide, rfl, rfl, Lib.hid (by unfold ofK; split <;> rfl), Nat.le_refl _, by rw [show ofK a 0 = [] by unfold ofK; split <;> rfl]; exact World.ownsRow_nil _ _ _ _, Chg.refl _ _⟩
    case round =>
      obtain ⟨k, n, B, c, hk, rfl, rfl, HN, hnk, hor, hcr⟩ := hrel
      have hsz := hcr.size
      by_cases hlt : k < 3
      · obtain ⟨kd, hkd⟩ : ∃ kd, ([1, 3, 4] : List Int)[k]? = some kd := ⟨_, List.getElem?_eq_getElem (by simpa using hlt)⟩
        have hcell : wr.cell? ⟨tb, k, none⟩ = some (.int .i64 kd) := by
          rw [Heap.blk_cell (hcr.at hlit (by simp))]
          rcases (show k = 0 ∨ k = 1 ∨ k = 2 by omega) with rfl | rfl | rfl <;> (simp at hkd; subst hkd; rfl)
        have hOF := fun w => c_OfK a kd w a0 a1
        obtain ⟨st1, st2⟩ := ofK_step a k kd hkd
        have HO := Lib.hid hor
        have HC := Lib.hid hcr
        have HHN := HN
        have HB : Hid (∀ b', b' ∈ ob (.slice B n c) → b' ∈ ([] : List Nat) ∨ W2.heap.size ≤ b') := Lib.hid (fun b' hb' => .inr (by rw [← hwb]; exact (hor.lt b' (mem_ob.1 hb')).1))
        clear hor hcr hkd
        by_cases hR : 0 ≤ a ∧ a < 1099511627776
        · obtain ⟨q1, q2⟩ := st1 hR
          rw [q1] at hOF
          clear st1 st2 hR q1
          have q2' := Lib.hid q2
          clear q2
          go_upto_region 11 with (go_at_call 18; refine (hOF _).mono ?_; rintro e w4 ⟨rfl, hd4⟩)
          have HO := Lib.hid (own_keep HO.out (chg_drawn hd4) (fun _ _ hm => by cases hm))
          have HC := Lib.hid (HC.out.same (chg_drawn hd4))
          have hsz4 := (chg_drawn hd4).size
          have HSN : Hid (∀ v : Value, Src (w4.alloc (.cells #[v] 23)) 1 (.slice (some ⟨w4.heap.size, 0, none⟩) 1 1) 1 [v]) := Lib.hid fun v => src_new [v] 23 1 1 1 w4.heap.size rfl rfl
          clear hd4 hOF
          go_wp2_with (at_builtin; refine app rfl (.tmp 58) (.tmp 60) 31 rfl wb 23 _ 1 8 underWs infoW rfl (by decide) (by decide) _ n _ rfl (HO.out.alloc _) _ 1 _ rfl (HSN.out _) (by intro u hu; simp at hu; subst hu; rfl) (by simp; omega) (by omega) ?_; intro B2 c2 w5 ho5 hc5 _)
          go_roundw
          case rel =>
            refine ⟨k + 1, n + 1, B2, c2, by omega, by go_num, rfl, Lib.hid (by rw [q2'.out, HHN.out]; simp), by omega, ?_, (HC.out.alloc _).trans hc5 HB.out⟩
            rw [q2'.out]
            simpa [Heap.nums] using ho5
          case measure => simp [intOf]; omega
        · obtain ⟨q1, q2⟩ := st2 hR
          rw [q1] at hOF
          clear st1 st2 hR q1
          have q2' := Lib.hid q2
          clear q2
          go_upto_region 11 with (go_at_call 18; refine (hOF _).mono ?_; rintro e w4 ⟨rfl, hd4⟩)
          have HO := Lib.hid (own_keep HO.out (chg_drawn hd4) (fun _ _ hm => by cases hm))
          have HC := Lib.hid (HC.out.same (chg_drawn hd4))
          clear hd4 hOF
          go_wp2_with fail
          go_roundw
          case rel => exact ⟨k + 1, n, B, c, by omega, by go_num, rfl, Lib.hid (by rw [q2'.out, HHN.out]), by omega, by rw [q2'.out]; exact HO.out, HC.out⟩
          case measure => simp [intOf]; omega
      · obtain rfl : k = 3 := by omega
        have hnd := Lib.hid (all_nodup a)
        have hmy := Lib.hid (all_may a)
        have HO := Lib.hid hor
        have HC := Lib.hid hcr
        have HB : Hid (∀ b', b' ∈ ob (.slice B n c) → b' ∈ ([] : List Nat) ∨ W2.heap.size ≤ b') := Lib.hid (fun b' hb' => .inr (by rw [← hwb]; exact (hor.lt b' (mem_ob.1 hb')).1))
        have HN3 := HN
        clear hor hcr HN hlit
        have hik : intK a = [] := by rw [HIK.out, if_neg h1]
        have HO1 : Hid (wr.ownsRow wb 23 1 (.slice B n c) n (Heap.nums .u64 (ofK a 3 ++ intK a))) := Lib.hid (by rw [hik]; simpa using HO.out)
        have HC1 := HC
        have HB1 := HB
        clear HO HC HB HN3 hik
        have hn14 : n ≤ 4 := by omega
        obtain ⟨n1, rfl⟩ : ∃ n1, n1 = n := ⟨_, rfl⟩
        have HSN4 : Hid (Src (wr.alloc (.cells #[.int .u64 2, .int .u64 18, .int .u64 10, .int .u64 26] 23)) 1 (.slice (some ⟨wr.heap.size, 0, none⟩) 4 4) 4 [.int .u64 2, .int .u64 18, .int .u64 10, .int .u64 26]) := Lib.hid (src_new [.int .u64 2, .int .u64 18, .int .u64 10, .int .u64 26] 23 1 4 4 wr.heap.size rfl rfl)
        go_upto_region 17 with (at_builtin; refine app rfl (.tmp 69) (.tmp 70) 31 rfl wb 23 _ 1 8 underWs infoW rfl (by decide) (by decide) _ n1 _ rfl (HO1.out.alloc _) _ 4 _ rfl (HSN4.out) (by intro u hu; simp at hu; rcases hu with rfl | rfl | rfl | rfl <;> rfl) (by simp; omega) (by omega) ?_; intro B6 c6 w6 ho6 hc6 _)
        have HO6 : Hid (w6.ownsRow wb 23 1 (.slice B6 (n1 + 4) c6) (n1 + 4) (Heap.nums .u64 (allK a))) := Lib.hid (by
          have e : Heap.nums .u64 (allK a) = Heap.nums .u64 (ofK a 3 ++ intK a) ++ [.int .u64 2, .int .u64 18, .int .u64 10, .int .u64 26] := by simp [allK, Heap.nums]
          rw [e]; exact ho6)
        have HC6 : Hid (Chg [] w w6) := Lib.hid (hCW.same ((HC1.out.alloc _).trans hc6 HB1.out))
        have hwb6 : wb ≤ w6.heap.size := by have := hc6.size; simp at this; omega
        clear ho6 hc6 HO1 HC1 HB1 HSN4
        obtain ⟨m, hm⟩ : ∃ m, n1 + 4 = m := ⟨_, rfl⟩
        have hm8 : m ≤ 8 := by omega
        have hLen : (allK a).length = m := by have := HO6.out.1; rw [hm] at this; simpa [Heap.nums] using this
        rw [hm] at HO6
        rw [hm]
        have hmm := @run_makeMap Try.prog
        go_upto_region 18 with fail
        clear hmm
        have hmade := World.ownsMap_made (H := Unit) w6 Try.prog 23 (plainElem Try.prog 4)
        have HO7 : Hid ((w6.alloc (.map #[] 0)).ownsRow wb 23 1 (.slice B6 m c6) m (Heap.nums .u64 (allK a))) := Lib.hid (HO6.out.alloc _)
        have HC7 : Hid (Chg [] w (w6.alloc (.map #[] 0))) := Lib.hid (HC6.out.alloc _)
        have hmbF : Hid (∀ b', (Value.slice B6 m c6).ownBlock = some b' → b' ∉ [w6.heap.size]) := Lib.hid (fun b' hb' hm' => by have := (HO6.out.lt b' hb').2; simp at hm'; omega)
        have hmbw : w.heap.size ≤ w6.heap.size := HC6.out.size
        clear HO6 HC6 hm
        generalize w6.alloc (.map #[] 0) = W7 at *
        generalize w6.heap.size = mb at *
        have HMADE := Lib.hid hmade
        clear hmade
        go_wp2_with fail
        go_loopw [75] (fun i wx => ∃ (j : Nat) (D : DataW Unit), j ≤ m ∧ i = .int .i64 j ∧ wx.ownsMap Try.prog 23 (plainElem Try.prog 4) mb j D ∧ Hid (∀ z ∈ (allK a).drop j, D.atKey (.int .u64 z) (.lit (.bool false)) = .lit (.bool false)) ∧ Chg [mb] W7 wx) (fun i _ => m - (intOf i).toNat)
        case atStart => exact ⟨0, _, Nat.zero_le _, rfl, HMADE.out, Lib.hid (fun _ _ => rfl), Chg.refl _ _⟩
        case round =>
          obtain ⟨j, D, hj, rfl, hown, hD, hcx⟩ := hrel
          by_cases hlt : j < m
          · obtain ⟨z, hz⟩ : ∃ z, (allK a)[j]? = some z := ⟨_, List.getElem?_eq_getElem (by omega)⟩
            have hdr : (allK a).drop j = z :: (allK a).drop (j + 1) := by
              rw [List.drop_eq_getElem_cons (by omega)]
              have := List.getElem?_eq_some_iff.1 hz
              rw [this.2]
            have hzm := hmy.out z (List.mem_of_getElem? hz)
            have hwf : (Lit.int .u64 z).wf = true := by simp [Lit.wf, IntKind.min, IntKind.max, IntKind.signed, IntKind.bits]; omega
            have hne : ∀ y' ∈ (allK a).drop (j + 1), y' ≠ z := by
              have h0 := hnd.out.sublist (List.drop_sublist j (allK a))
              rw [hdr, List.nodup_cons] at h0
              exact fun y' hy' he => h0.1 (he ▸ hy')
            have hD' := hD.out
            rw [hdr] at hD'
            have hrun0 := lookB (w := wr) (b := mb) (n := j) (D := D) hown z hwf (hD' z (by simp))
            have hkey : keyOf Try.prog 23 (.int .u64 z) = some (.int .u64 z) := keyOf_int_mk Try.underlying23 hwf
            have hor := own_keep HO7.out hcx hmbF.out
            obtain ⟨gb, gc, hA, _, _, _, _, hcell⟩ := own_at hor (by omega)
            simp only [Value.slice.injEq] at hA
            obtain ⟨rfl, _, rfl⟩ := hA
            have hzc := (hcell j (.int .u64 z) (by simp [Heap.nums, hz])).1
            have HOWN := Lib.hid hown
            have HCX := Lib.hid hcx
            have HDD : Hid (∀ y' ∈ (allK a).drop (j + 1), (D.put (.int .u64 z) (.lit (.bool true))).atKey (.int .u64 y') (.lit (.bool false)) = .lit (.bool false)) := Lib.hid (fun y' hy' => by
              rw [atKey_put_other (by have := hne y' hy'; simpa using this)]
              exact hD' y' (List.mem_cons_of_mem _ hy'))
            have hMAY := fun w => c_MayY z w hzm.2.1 hzm.2.2 hzm.1
            clear hown hcx hD hD' hdr hne hz hzm hcell hor
            go_upto_region 23 with (go_at_call 25; refine (hMAY _).mono ?_; rintro e w8 ⟨rfl, n8, rfl⟩)
            go_wp2_with (at_mapUpdate; refine wpList_mapUpdate_own _ rfl _ _ _ 42 rfl 23 4 lawW Try.underlying42 _ mb j _ rfl HOWN.out (by unfold maxLen; omega) _ _ _ rfl rfl hkey _ [] (plainElem_bool Try.underlying4 true) ?_; intro w9 hown9 hgrow9)
            go_roundw
            case rel => exact ⟨j + 1, _, by omega, by go_num, hown9, HDD, (HCX.out.draw _).same (chg_map hgrow9)⟩
            case measure => simp [intOf]; omega
          · have HF : Hid (Chg [] w wr) := Lib.hid (HC7.out.trans hcx (fun b' hb' => .inr (by simp at hb'; omega)))
            clear hown hcx hD
            go_wp2_with fail
            go_ret
            exact ⟨rfl, HF.out.below⟩
end Go.Proofs.Ytfabipoeollidaa.Apart

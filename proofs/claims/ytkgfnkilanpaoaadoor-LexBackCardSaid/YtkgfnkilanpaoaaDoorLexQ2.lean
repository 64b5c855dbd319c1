/- The reference's words, in plain lists; each states its conditions. -/
import Derived.Test.YtkgfnkilanpaoaaDoorLexQ1
namespace Go.Proofs.YtkgfnkilanpaoaaDoor.Pure
open Go Go.RowKit Go.Proofs.YtkgfnkilanpaoaaDoor.PLexs Go.Proofs.YtkgfnkilanpaoaaDoor.LexP Go.Proofs.YtkgfnkilanpaoaaDoorW.PrintWords Go.Proofs.YtkgfnkilanpaoaaDoorW.PrintLast
theorem bt_byte (s : ByteArray) (i : Nat) (h : i < s.size) : bt s i = (((s.data.toList[i]'(by rw [← Lib.size_eq]; exact h)).toNat : Nat) : Int) := by
  have h2 := Lib.data_getElem? s i h
  have h3 : s.data.toList[i]'(by rw [← Lib.size_eq]; exact h) = s[i]'h := by
    rw [List.getElem?_eq_getElem (by rw [← Lib.size_eq]; exact h)] at h2; exact Option.some.inj h2
  rw [h3]
  unfold bt
  rw [dif_pos (by simpa using h)]
  rfl
theorem b_letter (s : ByteArray) (i : Nat) (h : i < s.size) : eddywheelref05_letter.f (bt s i) = some (isLetter (s.data.toList[i]'(by rw [← Lib.size_eq]; exact h))) := by
  unfold eddywheelref05_letter.f
  rw [bt_byte s i h]
  generalize s.data.toList[i]'(by rw [← Lib.size_eq]; exact h) = c
  have hc := c.toNat_lt
  rw [if_pos (by omega)]
  congr 2
  simp
theorem word_l0 (s : ByteArray) (hs : s.size < 4294967296) (i0 : Nat) : ∀ (d i k : Nat), i0 ≤ i → d + i = s.size → d < k →
    eddywheelref05_word.l0 k s i0 i = some (s.extract i0 (i + (word (s.data.toList.drop i)).length))
  | _, _, 0, _, _, h => by omega
  | 0, i, k + 1, h0, hd, _ => by
    unfold eddywheelref05_word.l0
    rw [if_neg (by omega), if_pos (by omega), if_pos (by omega), if_pos (by omega)]
    rw [List.drop_eq_nil_iff.2 (by rw [← Lib.size_eq]; omega)]
    simp [word]
  | d + 1, i, k + 1, h0, hd, hk => by
    have hi : i < s.size := by omega
    have hil : i < s.data.toList.length := by rw [← Lib.size_eq]; exact hi
    unfold eddywheelref05_word.l0
    rw [if_pos (by omega), if_pos (by omega), b_letter s i hi, Option.bind_some, List.drop_eq_getElem_cons hil, word, List.takeWhile_cons]
    cases hl : isLetter (s.data.toList[i]'hil) with
    | true =>
      rw [if_pos rfl, show wrap64 ((i : Int) + 1) = ((i + 1 : Nat) : Int) from by simp only [wrap64]; omega, word_l0 s hs i0 d (i + 1) k (by omega) (by omega) (by omega)]
      simp only [if_true, List.length_cons, word]
      rw [show i + 1 + (List.takeWhile isLetter (List.drop (i + 1) s.data.toList)).length = i + ((List.takeWhile isLetter (List.drop (i + 1) s.data.toList)).length + 1) from by omega]
    | false =>
      rw [if_neg (by simp), if_pos (by omega), if_pos (by omega), if_pos (by omega)]
      simp
theorem b_word (s : ByteArray) (i k : Nat) (hs : s.size < 4294967296) (hi : i ≤ s.size) (hk : s.size < k) : eddywheelref05_word.f k s i = some (s.extract i (i + (word (s.data.toList.drop i)).length)) :=
  word_l0 s hs i (s.size - i) i k (Nat.le_refl _) (by omega) (by omega)
open Go Go.RowKit Go.Proofs.YtkgfnkilanpaoaaDoor.PLexs Go.Proofs.YtkgfnkilanpaoaaDoor.LexP Go.Proofs.YtkgfnkilanpaoaaDoorW.PrintWords Go.Proofs.YtkgfnkilanpaoaaDoorW.PrintLast
theorem number_l0 (s : ByteArray) (hs : s.size < 4294967296) : ∀ (d i k : Nat), d + i = s.size → d < k →
    eddywheelref05_number.l0 k s i = some ((s.data.toList.drop i).all isDigit && decide (0 < s.size))
  | _, _, 0, _, h => by omega
  | 0, i, k + 1, hd, _ => by
    unfold eddywheelref05_number.l0
    rw [if_neg (by omega), List.drop_eq_nil_iff.2 (by rw [← Lib.size_eq]; omega)]
    simp
  | d + 1, i, k + 1, hd, hk => by
    have hi : i < s.size := by omega
    have hil : i < s.data.toList.length := by rw [← Lib.size_eq]; exact hi
    unfold eddywheelref05_number.l0
    rw [if_pos (by omega), if_pos (by omega), List.drop_eq_getElem_cons hil, List.all_cons, bt_byte s i hi]
    generalize s.data.toList[i]'hil = c
    have hdg := Go.Proofs.YtkgfnkilanpaoaaDoor.LexC.isDigit_iff c
    by_cases h1 : c.toNat < 48
    · rw [if_pos (by omega), show isDigit c = false from by rw [Bool.eq_false_iff, Ne, hdg]; omega]; rfl
    · rw [if_neg (by omega)]
      by_cases h2 : 57 < c.toNat
      · rw [if_pos (by omega), show isDigit c = false from by rw [Bool.eq_false_iff, Ne, hdg]; omega]; rfl
      · rw [if_neg (by omega), show isDigit c = true from hdg.2 (by omega), Bool.true_and, show wrap64 ((i : Int) + 1) = ((i + 1 : Nat) : Int) from by simp only [wrap64]; omega]
        exact number_l0 s hs d (i + 1) k (by omega) (by omega)
theorem b_number (s : ByteArray) (c : UInt8) (r : List UInt8) (k : Nat) (hl : s.data.toList = c :: r) (hs : s.size < 4294967296) (hk : s.size + 1 < k) : eddywheelref05_number.f k s = some (numP (c :: r)) := by
  have h0 : 0 < s.size := by rw [Lib.size_eq, hl]; simp
  obtain ⟨k, rfl⟩ : ∃ j, k = j + 1 := ⟨k - 1, by omega⟩
  unfold eddywheelref05_number.f
  have hb := bt_byte s 0 h0
  rw [show s.data.toList[0]'(by rw [← Lib.size_eq]; exact h0) = c from by simp [hl]] at hb
  rw [if_pos (by omega), show bt s 0 = _ from hb, Go.Proofs.YtkgfnkilanpaoaaDoor.LexC.numP_cons]
  by_cases hc : c == 45
  · have hc2 : c = 45 := by simpa using hc
    have hx : (s.extract 1 s.size).data.toList = r := by rw [Go.Proofs.YtkgfnkilanpaoaaDoor.LexC.ext_list, hl]; simp [Lib.size_eq, hl]
    have hxs : (s.extract 1 s.size).size = r.length := by rw [Lib.size_eq, hx]
    have hz : s.size = r.length + 1 := by rw [Lib.size_eq, hl]; rfl
    rw [if_pos (by rw [hc2]; rfl), if_pos (by omega), if_pos hc]
    show eddywheelref05_number.l0 k (s.extract 1 s.size) ((0 : Nat) : Int) = _
    have := number_l0 (s.extract 1 s.size) (by omega) (s.extract 1 s.size).size 0 k (by omega) (by omega)
    rw [hx, List.drop_zero, hxs] at this
    rw [this]
    cases r <;> simp
  · have hc2 : ¬ c.toNat = 45 := fun h => hc (by rw [show c = 45 from UInt8.toNat_inj.1 h]; rfl)
    rw [if_neg (by omega), if_neg hc]
    show eddywheelref05_number.l0 k s ((0 : Nat) : Int) = _
    have := number_l0 s hs s.size 0 k (by omega) (by omega)
    rw [hl, List.drop_zero, decide_eq_true h0, Bool.and_true] at this
    exact this
open Go Go.RowKit Go.Proofs.YtkgfnkilanpaoaaDoor.PLexs Go.Proofs.YtkgfnkilanpaoaaDoor.LexP Go.Proofs.YtkgfnkilanpaoaaDoorW.PrintWords Go.Proofs.YtkgfnkilanpaoaaDoorW.PrintLast
theorem w64 (x : Int) (h1 : -9223372036854775808 ≤ x) (h2 : x < 9223372036854775808) : wrap64 x = x := by unfold wrap64; omega
theorem step_val (a c : Nat) (h1 : 48 ≤ c) (h2 : c ≤ 57) (ha : a * 10 + (c - 48) < 10000000000000000) : wrap64 (wrap64 ((a : Int) * 10) + ((c : Int) - 48) % 256) = ((a * 10 + (c - 48) : Nat) : Int) := by
  have e1 : ((c : Int) - 48) % 256 = (c : Int) - 48 := Int.emod_eq_of_lt (by omega) (by omega)
  rw [e1, w64 ((a : Int) * 10) (by omega) (by omega), w64 _ (by omega) (by omega)]
  omega
theorem value_l0 (s : ByteArray) (hs : s.size ≤ 14) : ∀ (d i k : Nat) (a : Nat), d + i = s.size → d < k → (s.data.toList.drop i).all isDigit = true → a * 10 ^ d + 10 ^ d ≤ 1000000000000000 →
    eddywheelref05_value.l0 k s a i = some (((s.data.toList.drop i).foldl (fun a c => a * 10 + (c.toNat - 48)) a : Nat) : Int)
  | _, _, 0, _, _, h, _, _ => by omega
  | 0, i, k + 1, a, hd, _, _, _ => by
    unfold eddywheelref05_value.l0
    rw [if_neg (by omega), List.drop_eq_nil_iff.2 (by rw [← Lib.size_eq]; omega)]
    rfl
  | d + 1, i, k + 1, a, hd, hk, hall, hb => by
    have hi : i < s.size := by omega
    have hil : i < s.data.toList.length := by rw [← Lib.size_eq]; exact hi
    unfold eddywheelref05_value.l0
    rw [List.drop_eq_getElem_cons hil, List.all_cons, Bool.and_eq_true] at hall
    rw [if_pos (by omega), if_pos (by omega), List.drop_eq_getElem_cons hil, List.foldl_cons, bt_byte s i hi]
    obtain ⟨h1, h2⟩ := hall
    rw [Go.Proofs.YtkgfnkilanpaoaaDoor.LexC.isDigit_iff] at h1
    generalize s.data.toList[i]'hil = c at h1 ⊢
    clear hil
    have hp : 1 ≤ 10 ^ d := Nat.one_le_pow _ _ (by omega)
    simp only [Nat.pow_succ] at hb
    have e1 : a * (10 ^ d * 10) = a * 10 * 10 ^ d := by rw [Nat.mul_comm (10 ^ d), Nat.mul_assoc]
    have e2 : (a * 10 + (c.toNat - 48)) * 10 ^ d ≤ a * 10 * 10 ^ d + 9 * 10 ^ d := by
      rw [← Nat.add_mul]; exact Nat.mul_le_mul_right _ (by omega)
    have hle : a * 10 ≤ a * 10 * 10 ^ d := Nat.le_mul_of_pos_right _ (by omega)
    have ha : a * 10 + (c.toNat - 48) < 10000000000000000 := by
      generalize 10 ^ d = P at *
      omega
    have hq : (a * 10 + (c.toNat - 48)) * 10 ^ d + 10 ^ d ≤ 1000000000000000 := by
      generalize 10 ^ d = P at *
      omega
    clear hb e1 e2 hle hp
    have ea : wrap64 (wrap64 ((a : Int) * 10) + (((c.toNat : Nat) : Int) - 48) % 256) = ((a * 10 + (c.toNat - 48) : Nat) : Int) := step_val a c.toNat h1.1 h1.2 ha
    rw [ea, show wrap64 ((i : Int) + 1) = ((i + 1 : Nat) : Int) from by rw [w64 _ (by omega) (by omega)]; rfl]
    exact value_l0 s hs d (i + 1) k _ (by omega) (by omega) h2 hq
end Go.Proofs.YtkgfnkilanpaoaaDoor.Pure

/- The reference's words, in plain lists; each states its conditions. -/
import Derived.Test.YtkgfnkilanpaoaaDoorLexQ1
namespace Go.Proofs.YtkgfnkilanpaoaaDoor.Pure
open Go Go.RowKit Go.Proofs.YtkgfnkilanpaoaaDoor.PLexs Go.Proofs.YtkgfnkilanpaoaaDoor.LexP Go.Proofs.YtkgfnkilanpaoaaDoorW.PrintWords Go.Proofs.YtkgfnkilanpaoaaDoorW.PrintLast
theorem bt_byte (s : ByteArray) (i : Nat) (h : i < s.size) : bt s i = (((s.data.toList[i]'(by rw [← Lib.size_eq]; exact h)).toNat : Nat) : Int) := by
  have h2 := Lib.data_getElem? s i h
  have h3 : s.data.toList[i]'(by rw [← Lib.size_eq]; exact h) = s[i]'h := by
    rw [List.getElem?_eq_getElem (by rw [← Lib.size_eq]; exact h)] at h2; exact Option.some.inj h2
  rw [h3]
  unfold bt
  rw [dif_pos (by simpa using h)]
  rfl
theorem b_letter (s : ByteArray) (i : Nat) (h : i < s.size) : eddywheelref05_letter.f (bt s i) = some (isLetter (s.data.toList[i]'(by rw [← Lib.size_eq]; exact h))) := by
  unfold eddywheelref05_letter.f
  rw [bt_byte s i h]
  generalize s.data.toList[i]'(by rw [← Lib.size_eq]; exact h) = c
  have hc := c.toNat_lt
  rw [if_pos (by omega)]
  congr 2
  simp
theorem word_l0 (s : ByteArray) (hs : s.size < 4294967296) (i0 : Nat) : ∀ (d i k : Nat), i0 ≤ i → d + i = s.size → d < k →
    eddywheelref05_word.l0 k s i0 i = some (s.extract i0 (i + (word (s.data.toList.drop i)).length))
  | _, _, 0, _, _, h => by omega
  | 0, i, k + 1, h0, hd, _ => by
    unfold eddywheelref05_word.l0
    rw [if_neg (by omega), if_pos (by omega), if_pos (by omega), if_pos (by omega)]
    rw [List.drop_eq_nil_iff.2 (by rw [← Lib.size_eq]; omega)]
    simp [word]
  | d + 1, i, k + 1, h0, hd, hk => by
    have hi : i < s.size := by omega
    have hil : i < s.data.toList.length := by rw [← Lib.size_eq]; exact hi
    unfold eddywheelref05_word.l0
    rw [if_pos (by omega), if_pos (by omega), b_letter s i hi, Option.bind_some, List.drop_eq_getElem_cons hil, word, List.takeWhile_cons]
    cases hl : isLetter (s.data.toList[i]'hil) with
    | true =>
      rw [if_pos rfl, show wrap64 ((i : Int) + 1) = ((i + 1 : Nat) : Int) from by simp only [wrap64]; omega, word_l0 s hs i0 d (i + 1) k (by omega) (by omega) (by omega)]
      simp only [if_true, List.length_cons, word]
      rw [show i + 1 + (List.takeWhile isLetter (List.drop (i + 1) s.data.toList)).length = i + ((List.takeWhile isLetter (List.drop (i + 1) s.data.toList)).length + 1) from by omega]
    | false =>
      rw [if_neg (by simp), if_pos (by omega), if_pos (by omega), if_pos (by omega)]
      simp
theorem b_word (s : ByteArray) (i k : Nat) (hs : s.size < 4294967296) (hi : i ≤ s.size) (hk : s.size < k) : eddywheelref05_word.f k s i = some (s.extract i (i + (word (s.data.toList.drop i)).length)) :=
  word_l0 s hs i (s.size - i) i k (Nat.le_refl _) (by omega) (by omega)
end Go.Proofs.YtkgfnkilanpaoaaDoor.Pure

/- Whether a word is a number to the reference, in plain lists; each states its conditions. -/
import Derived.Test.YtkgfnkilanpaoaaDoorLexQ2
namespace Go.Proofs.YtkgfnkilanpaoaaDoor.Pure
open Go Go.RowKit Go.Proofs.YtkgfnkilanpaoaaDoor.PLexs Go.Proofs.YtkgfnkilanpaoaaDoor.LexP Go.Proofs.YtkgfnkilanpaoaaDoorW.PrintWords Go.Proofs.YtkgfnkilanpaoaaDoorW.PrintLast
theorem number_l0 (s : ByteArray) (hs : s.size < 4294967296) : ∀ (d i k : Nat), d + i = s.size → d < k →
    eddywheelref05_number.l0 k s i = some ((s.data.toList.drop i).all isDigit && decide (0 < s.size))
  | _, _, 0, _, h => by omega
  | 0, i, k + 1, hd, _ => by
    unfold eddywheelref05_number.l0
    rw [if_neg (by omega), List.drop_eq_nil_iff.2 (by rw [← Lib.size_eq]; omega)]
    simp
  | d + 1, i, k + 1, hd, hk => by
    have hi : i < s.size := by omega
    have hil : i < s.data.toList.length := by rw [← Lib.size_eq]; exact hi
    unfold eddywheelref05_number.l0
    rw [if_pos (by omega), if_pos (by omega), List.drop_eq_getElem_cons hil, List.all_cons, bt_byte s i hi]
    generalize s.data.toList[i]'hil = c
    have hdg := Go.Proofs.YtkgfnkilanpaoaaDoor.LexC.isDigit_iff c
    by_cases h1 : c.toNat < 48
    · rw [if_pos (by omega), show isDigit c = false from by rw [Bool.eq_false_iff, Ne, hdg]; omega]; rfl
    · rw [if_neg (by omega)]
      by_cases h2 : 57 < c.toNat
      · rw [if_pos (by omega), show isDigit c = false from by rw [Bool.eq_false_iff, Ne, hdg]; omega]; rfl
      · rw [if_neg (by omega), show isDigit c = true from hdg.2 (by omega), Bool.true_and, show wrap64 ((i : Int) + 1) = ((i + 1 : Nat) : Int) from by simp only [wrap64]; omega]
        exact number_l0 s hs d (i + 1) k (by omega) (by omega)
theorem b_number (s : ByteArray) (c : UInt8) (r : List UInt8) (k : Nat) (hl : s.data.toList = c :: r) (hs : s.size < 4294967296) (hk : s.size + 1 < k) : eddywheelref05_number.f k s = some (numP (c :: r)) := by
  have h0 : 0 < s.size := by rw [Lib.size_eq, hl]; simp
  obtain ⟨k, rfl⟩ : ∃ j, k = j + 1 := ⟨k - 1, by omega⟩
  unfold eddywheelref05_number.f
  have hb := bt_byte s 0 h0
  rw [show s.data.toList[0]'(by rw [← Lib.size_eq]; exact h0) = c from by simp [hl]] at hb
  rw [if_pos (by omega), show bt s 0 = _ from hb, Go.Proofs.YtkgfnkilanpaoaaDoor.LexC.numP_cons]
  by_cases hc : c == 45
  · have hc2 : c = 45 := by simpa using hc
    have hx : (s.extract 1 s.size).data.toList = r := by rw [Go.Proofs.YtkgfnkilanpaoaaDoor.LexC.ext_list, hl]; simp [Lib.size_eq, hl]
    have hxs : (s.extract 1 s.size).size = r.length := by rw [Lib.size_eq, hx]
    have hz : s.size = r.length + 1 := by rw [Lib.size_eq, hl]; rfl
    rw [if_pos (by rw [hc2]; rfl), if_pos (by omega), if_pos hc]
    show eddywheelref05_number.l0 k (s.extract 1 s.size) ((0 : Nat) : Int) = _
    have := number_l0 (s.extract 1 s.size) (by omega) (s.extract 1 s.size).size 0 k (by omega) (by omega)
    rw [hx, List.drop_zero, hxs] at this
    rw [this]
    cases r <;> simp
  · have hc2 : ¬ c.toNat = 45 := fun h => hc (by rw [show c = 45 from UInt8.toNat_inj.1 h]; rfl)
    rw [if_neg (by omega), if_neg hc]
    show eddywheelref05_number.l0 k s ((0 : Nat) : Int) = _
    have := number_l0 s hs s.size 0 k (by omega) (by omega)
    rw [hl, List.drop_zero, decide_eq_true h0, Bool.and_true] at this
    exact this
end Go.Proofs.YtkgfnkilanpaoaaDoor.Pure

/- The reference's token of a word, in plain lists; each states its conditions. -/
import Derived.Test.YtkgfnkilanpaoaaDoorLexQ2
import Derived.Test.YtkgfnkilanpaoaaDoorPLexsx3
namespace Go.Proofs.YtkgfnkilanpaoaaDoor.Pure
open Go Go.RowKit Go.Proofs.YtkgfnkilanpaoaaDoor.PLexs Go.Proofs.YtkgfnkilanpaoaaDoor.LexP Go.Proofs.YtkgfnkilanpaoaaDoorW.PrintWords Go.Proofs.YtkgfnkilanpaoaaDoorW.PrintLast
theorem ba_eq (s : ByteArray) (l : List UInt8) (h : s.data.toList = l) : s = ⟨l.toArray⟩ := by
  cases s; subst h; simp
theorem b_value (s : ByteArray) (c : UInt8) (r : List UInt8) (k : Nat) (hl : s.data.toList = c :: r) (hs : s.size ≤ 14) (hn : numP (c :: r) = true) (hk : s.size + 2 < k) : eddywheelref05_value.f k s = some (valP (c :: r)) := by
  have hz : s.size = r.length + 1 := by rw [Lib.size_eq, hl]; rfl
  have h0 : 0 < s.size := by omega
  have hb := bt_byte s 0 h0
  rw [show s.data.toList[0]'(by rw [← Lib.size_eq]; exact h0) = c from by simp [hl]] at hb
  have plain : ∀ (s : ByteArray) (c : UInt8) (r : List UInt8) (k : Nat), s.data.toList = c :: r → s.size ≤ 14 → (c :: r).all isDigit = true → s.size + 1 < k → eddywheelref05_value.f k s = some ((magP (c :: r) : Nat) : Int) := by
    intro s c r k hl hs ha hk
    have h0 : 0 < s.size := by rw [Lib.size_eq, hl]; simp
    have hb := bt_byte s 0 h0
    rw [show s.data.toList[0]'(by rw [← Lib.size_eq]; exact h0) = c from by simp [hl]] at hb
    obtain ⟨k, rfl⟩ : ∃ j, k = j + 1 := ⟨k - 1, by omega⟩
    have hc : isDigit c = true := by rw [List.all_cons, Bool.and_eq_true] at ha; exact ha.1
    rw [Go.Proofs.YtkgfnkilanpaoaaDoor.LexC.isDigit_iff] at hc
    unfold eddywheelref05_value.f
    rw [if_pos (by omega), show bt s 0 = _ from hb, if_neg (by omega)]
    have hp : 10 ^ s.size ≤ 10 ^ 14 := Nat.pow_le_pow_right (by omega) hs
    have := value_l0 s hs s.size 0 k 0 (by omega) (by omega) (by rw [List.drop_zero, hl]; exact ha) (by omega)
    rw [List.drop_zero, hl] at this
    exact this
  rw [Go.Proofs.YtkgfnkilanpaoaaDoor.LexC.numP_cons] at hn
  by_cases hc : c == 45
  · have hc2 : c = 45 := by simpa using hc
    rw [if_pos hc] at hn
    have hx : (s.extract 1 s.size).data.toList = r := by rw [Go.Proofs.YtkgfnkilanpaoaaDoor.LexC.ext_list, hl]; simp [Lib.size_eq, hl]
    obtain ⟨k, rfl⟩ : ∃ j, k = j + 1 := ⟨k - 1, by omega⟩
    unfold eddywheelref05_value.f
    rw [if_pos (by omega), show bt s 0 = _ from hb, if_pos (by rw [hc2]; rfl), if_pos (by omega)]
    cases r with
    | nil => simp at hn
    | cons c' r' =>
      simp only [List.length_cons] at hz
      have hxs : (s.extract 1 s.size).size = r'.length + 1 := by rw [Lib.size_eq, hx]; rfl
      have ha : (c' :: r').all isDigit = true := by
        rw [Bool.and_eq_true] at hn; exact hn.1
      rw [plain _ c' r' k hx (by omega) ha (by omega), Option.bind_some]
      have hm : magP (c' :: r') < 10000000000000000 := by
        have h1 : 10 ^ (c' :: r').length ≤ 10 ^ 13 := Nat.pow_le_pow_right (by omega) (by rw [← hx, ← Lib.size_eq]; omega)
        have := (parse_dig (c' :: r') 0 ha (by omega)).2
        unfold magP
        omega
      subst hc2
      show some (wrap64 (-((magP (c' :: r') : Nat) : Int))) = some (-(magP (c' :: r') : Int))
      rw [w64 _ (by omega) (by omega)]
  · rw [if_neg hc] at hn
    rw [plain s c r k hl hs hn (by omega)]
    unfold valP
    split
    · rename_i h; injection h with h1 _; subst h1; exact absurd rfl hc
    · rfl
/-- what the reference tells of a word -/
def oneB (i : Int) : Except Int (Int × Int × List UInt8) → Int × Int × Int × ByteArray × Int
  | .error e => (0, 0, 0, ⟨#[]⟩, e)
  | .ok t => (t.1, i, t.2.1, ⟨t.2.2.toArray⟩, 0)
theorem b_one (s : ByteArray) (c : UInt8) (r : List UInt8) (i : Int) (k : Nat) (hl : s.data.toList = c :: r) (hs : s.size < 4294967296) (hk : s.size + 2 < k) : eddywheelref05_one.f k s i = some (oneB i (tokP (c :: r))) := by
  have hz : s.size = (c :: r).length := by rw [Lib.size_eq, hl]
  unfold eddywheelref05_one.f tokP
  rw [b_number s c r k hl hs (by omega), Option.bind_some]
  by_cases hn : numP (c :: r) = true
  · rw [if_pos hn, if_pos hn]
    by_cases h14 : 14 < s.size
    · rw [if_pos (by omega), if_pos (.inl (by omega))]; rfl
    · rw [if_neg (by omega), b_value s c r k hl (by omega) hn hk, Option.bind_some]
      by_cases h13 : 13 < s.size
      · rw [if_pos (by omega), if_pos (.inl (by omega))]; rfl
      · rw [if_neg (by omega)]
        by_cases h1 : valP (c :: r) ≤ -1099511627776
        · rw [if_pos h1, if_pos (.inr (.inl h1))]; rfl
        · rw [if_neg h1]
          by_cases h2 : 1099511627776 ≤ valP (c :: r)
          · rw [if_pos h2, if_pos (.inr (.inr h2))]; rfl
          · rw [if_neg h2, if_neg (by omega)]; rfl
  · rw [if_neg hn, if_neg hn]
    by_cases h32 : 32 < s.size
    · rw [if_pos (by omega), if_pos (by omega)]; rfl
    · rw [if_neg (by omega), if_neg (by omega)]
      show some (6, i, 0, s, 0) = some (6, i, 0, ⟨(c :: r).toArray⟩, 0)
      rw [← ba_eq s (c :: r) hl]
end Go.Proofs.YtkgfnkilanpaoaaDoor.Pure

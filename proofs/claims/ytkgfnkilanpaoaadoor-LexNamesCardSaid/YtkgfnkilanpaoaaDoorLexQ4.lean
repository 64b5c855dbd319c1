/- The reference's numbers, in plain lists; each states its conditions. -/
import Derived.Test.YtkgfnkilanpaoaaDoorLexQ3
namespace Go.Proofs.YtkgfnkilanpaoaaDoor.Pure
open Go Go.RowKit Go.Proofs.YtkgfnkilanpaoaaDoor.PLexs Go.Proofs.YtkgfnkilanpaoaaDoor.LexP Go.Proofs.YtkgfnkilanpaoaaDoorW.PrintWords Go.Proofs.YtkgfnkilanpaoaaDoorW.PrintLast
theorem w64 (x : Int) (h1 : -9223372036854775808 ≤ x) (h2 : x < 9223372036854775808) : wrap64 x = x := by unfold wrap64; omega
theorem step_val (a c : Nat) (h1 : 48 ≤ c) (h2 : c ≤ 57) (ha : a * 10 + (c - 48) < 10000000000000000) : wrap64 (wrap64 ((a : Int) * 10) + ((c : Int) - 48) % 256) = ((a * 10 + (c - 48) : Nat) : Int) := by
  have e1 : ((c : Int) - 48) % 256 = (c : Int) - 48 := Int.emod_eq_of_lt (by omega) (by omega)
  rw [e1, w64 ((a : Int) * 10) (by omega) (by omega), w64 _ (by omega) (by omega)]
  omega
theorem value_l0 (s : ByteArray) (hs : s.size ≤ 14) : ∀ (d i k : Nat) (a : Nat), d + i = s.size → d < k → (s.data.toList.drop i).all isDigit = true → a * 10 ^ d + 10 ^ d ≤ 1000000000000000 →
    eddywheelref05_value.l0 k s a i = some (((s.data.toList.drop i).foldl (fun a c => a * 10 + (c.toNat - 48)) a : Nat) : Int)
  | _, _, 0, _, _, h, _, _ => by omega
  | 0, i, k + 1, a, hd, _, _, _ => by
    unfold eddywheelref05_value.l0
    rw [if_neg (by omega), List.drop_eq_nil_iff.2 (by rw [← Lib.size_eq]; omega)]
    rfl
  | d + 1, i, k + 1, a, hd, hk, hall, hb => by
    have hi : i < s.size := by omega
    have hil : i < s.data.toList.length := by rw [← Lib.size_eq]; exact hi
    unfold eddywheelref05_value.l0
    rw [List.drop_eq_getElem_cons hil, List.all_cons, Bool.and_eq_true] at hall
    rw [if_pos (by omega), if_pos (by omega), List.drop_eq_getElem_cons hil, List.foldl_cons, bt_byte s i hi]
    obtain ⟨h1, h2⟩ := hall
    rw [Go.Proofs.YtkgfnkilanpaoaaDoor.LexC.isDigit_iff] at h1
    generalize s.data.toList[i]'hil = c at h1 ⊢
    clear hil
    have hp : 1 ≤ 10 ^ d := Nat.one_le_pow _ _ (by omega)
    simp only [Nat.pow_succ] at hb
    have e1 : a * (10 ^ d * 10) = a * 10 * 10 ^ d := by rw [Nat.mul_comm (10 ^ d), Nat.mul_assoc]
    have e2 : (a * 10 + (c.toNat - 48)) * 10 ^ d ≤ a * 10 * 10 ^ d + 9 * 10 ^ d := by
      rw [← Nat.add_mul]; exact Nat.mul_le_mul_right _ (by omega)
    have hle : a * 10 ≤ a * 10 * 10 ^ d := Nat.le_mul_of_pos_right _ (by omega)
    have ha : a * 10 + (c.toNat - 48) < 10000000000000000 := by
      generalize 10 ^ d = P at *
      omega
    have hq : (a * 10 + (c.toNat - 48)) * 10 ^ d + 10 ^ d ≤ 1000000000000000 := by
      generalize 10 ^ d = P at *
      omega
    clear hb e1 e2 hle hp
    have ea : wrap64 (wrap64 ((a : Int) * 10) + (((c.toNat : Nat) : Int) - 48) % 256) = ((a * 10 + (c.toNat - 48) : Nat) : Int) := step_val a c.toNat h1.1 h1.2 ha
    rw [ea, show wrap64 ((i : Int) + 1) = ((i + 1 : Nat) : Int) from by rw [w64 _ (by omega) (by omega)]; rfl]
    exact value_l0 s hs d (i + 1) k _ (by omega) (by omega) h2 hq
end Go.Proofs.YtkgfnkilanpaoaaDoor.Pure

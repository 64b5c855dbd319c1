/- The examples of layer 5, and Same, in plain lists; each states its conditions. -/
import Derived.Test.YtkgfnkilanpaoaaDoorPLexsx2
import Derived.Test.YtkgfnkilanpaoaaDoorLexP2
namespace Go.Proofs.YtkgfnkilanpaoaaDoor.Pure
open Go.RowKit Go.Proofs.YtkgfnkilanpaoaaDoor.PLexs Go.Proofs.YtkgfnkilanpaoaaDoor.LexP Go.Proofs.YtkgfnkilanpaoaaDoorW.PrintWords Go.Proofs.YtkgfnkilanpaoaaDoorW.PrintLast
theorem same_l0 (x : List S30) (hx : x.length < 4611686018427387904) : ∀ (d i k : Nat), d + i = x.length → d < k → eddywheelref05_Same.l0 k x x i = some true
  | _, _, 0, _, h => by omega
  | 0, i, k + 1, hd, _ => by
    unfold eddywheelref05_Same.l0
    rw [if_neg (by omega)]
  | d + 1, i, k + 1, hd, hk => by
    unfold eddywheelref05_Same.l0
    rw [if_pos (by omega), if_pos (by omega), if_pos (by omega), if_neg (by simp), show wrap64 ((i : Int) + 1) = ((i + 1 : Nat) : Int) from by simp only [wrap64]; omega]
    exact same_l0 x hx d (i + 1) k (by omega) (by omega)
theorem same_ok (x : List S30) (k : Nat) (hx : x.length < 4611686018427387904) (hk : x.length < k) : eddywheelref05_Same.f k x x = some true := by
  unfold eddywheelref05_Same.f
  rw [if_pos rfl]
  exact same_l0 x hx x.length 0 k (by omega) hk
theorem shown_lex : lex_Lex.f (⟨#[40, 43, 32, 45, 50, 32, 120, 41]⟩ : ByteArray) = some ([(⟨1, 0, 0, (⟨#[]⟩ : ByteArray)⟩ : S30), ⟨6, 1, 0, (⟨#[43]⟩ : ByteArray)⟩, ⟨4, 3, (-2), (⟨#[]⟩ : ByteArray)⟩, ⟨6, 6, 0, (⟨#[120]⟩ : ByteArray)⟩, ⟨2, 7, 0, (⟨#[]⟩ : ByteArray)⟩], 0, 0) := by kernel_rfl
theorem shown_ok (k : Nat) (hk : 6 ≤ k) : eddywheellaw05_shown.f k = some true := by
  unfold eddywheellaw05_shown.f
  rw [shown_lex]
  simp only [Option.bind_some, if_true]
  rw [same_ok _ k (by simp) (by simp; omega)]
  rfl
end Go.Proofs.YtkgfnkilanpaoaaDoor.Pure

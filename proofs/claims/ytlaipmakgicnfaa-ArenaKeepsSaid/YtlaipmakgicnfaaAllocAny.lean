/- The contract of Alloc at any kind and any words, with room or without; each states its conditions. -/
import Derived.Test.YtlaipmakgicnfaaArenaC6
namespace Go.Proofs.Ytlaipmakgicnfaa.Ar
open Go Go.RowKit Go.Proofs.Ytlaipmakgicnfaa.Heap Go.Proofs.Ytlaipmakgicnfaa.Word Go.Proofs.Ytlaipmakgicnfaa.Own Go.Proofs.Ytlaipmakgicnfaa.Ar
/-- what is made, or not, where there is room, or none -/
def allocA (l : List Thing) (size : Nat) (k : Int) (xs : List Int) : List Thing × Int × Int :=
  if k < 1 ∨ 9 < k ∨ 255 < xs.length then (l, 0, 1) else if size ≤ tot l + xs.length then (l, 0, 20) else (l ++ [(k, xs)], (tot l : Int) * 8 + 1, 0)
theorem alloc_any {w : World} {g bw bh size : Nat} {l : List Thing} (h : IsAr w g bw bh size l) (k : Int) (v : Value) (xs : List Int) (hv : Rd w [g, bw, bh] v xs) :
    Calls Try.prog 10 #[.pointer (some ⟨g, 0, none⟩), .int .i64 k, v] w fun e w' =>
      e = .returned (.tuple #[.int .u64 (allocA l size k xs).2.1, .int .i64 (allocA l size k xs).2.2]) ∧ IsAr w' g bw bh size (allocA l size k xs).1 ∧ Chg [g, bw, bh] w w' := by
  by_cases h1 : k < 1 ∨ 9 < k ∨ 255 < xs.length
  · rw [show allocA l size k xs = (l, 0, 1) by unfold allocA; rw [if_pos h1]]
    obtain ⟨A, c, rfl, _⟩ := hv
    refine (alloc_bad k A xs.length c h1).mono ?_
    rintro e w1 ⟨rfl, rfl⟩
    exact ⟨rfl, h, Chg.refl _ _⟩
  · by_cases h2 : size ≤ tot l + xs.length
    · rw [show allocA l size k xs = (l, 0, 20) by unfold allocA; rw [if_neg h1, if_pos h2]]
      obtain ⟨A, c, rfl, _⟩ := hv
      refine (alloc_full h k A xs.length c (by omega) (by omega) (by omega) h2).mono ?_
      rintro e w1 ⟨rfl, rfl⟩
      exact ⟨rfl, h, Chg.refl _ _⟩
    · rw [show allocA l size k xs = (l ++ [(k, xs)], (tot l : Int) * 8 + 1, 0) by unfold allocA; rw [if_neg h1, if_neg h2]]
      exact alloc_calls h k v xs hv (by omega) (by omega) (by omega) (by omega)
theorem rd_old {w0 w : World} {F : List Nat} {A : Option Addr} {c : Nat} {xs : List Int} (h : Src w0 1 (.slice A xs.length c) xs.length (nums .u64 xs)) (hc : Chg F w0 w) (hF : ∀ b, b ∈ F → w0.heap.size ≤ b) (G : List Nat) (hG : ∀ b, b ∈ G → w0.heap.size ≤ b) : Rd w G (.slice A xs.length c) xs := by
  refine ⟨A, c, rfl, fun hx => ?_⟩
  obtain ⟨b, o, hA, hb, hcell⟩ := h.pl (List.length_pos_iff.2 hx) (by decide)
  refine ⟨b, o, hA, fun hm => by have := hG b hm; omega, fun j x hj => ?_⟩
  exact hc.cell (hcell j _ (by simp [nums, hj])) (fun hm => by have := hF b hm; omega)
end Go.Proofs.Ytlaipmakgicnfaa.Ar

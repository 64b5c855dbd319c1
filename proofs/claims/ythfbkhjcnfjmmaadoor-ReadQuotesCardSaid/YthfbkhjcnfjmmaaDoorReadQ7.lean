import Derived.Test.YthfbkhjcnfjmmaaDoorReadQ6
namespace Go.Proofs.YthfbkhjcnfjmmaaDoor.ReadP
open Go.Proofs.YthfbkhjcnfjmmaaDoor.LexP
/-- the four base data -/
def baseT : Nat → List UInt8
  | 0 => [55]
  | 1 => [120]
  | 2 => [40, 41]
  | _ => [40, 97, 32, 98, 41]
theorem same_base (r : Nat) : Same2 1 (baseT r) (baseT r) := by
  match r with
  | 0 => exact same_seven
  | 1 => exact same_x
  | 2 => exact same_unit
  | _ + 3 => exact same_two
theorem base_len (r : Nat) : (baseT r).length ≤ 5 := by
  match r with
  | 0 => decide
  | 1 => decide
  | 2 => decide
  | _ + 3 => exact Nat.le_refl _
theorem qA_len (a : List UInt8) : ∀ n, (qA a n).length = a.length + n
  | 0 => rfl
  | n + 1 => by simp only [qA, List.length_cons, qA_len a n]; omega
theorem qB_len (a : List UInt8) : ∀ n, (qB a n).length = a.length + 8 * n
  | 0 => rfl
  | n + 1 => by simp [qB, qB_len a n]; omega
/-- a number's two texts -/
def pcs (x : Int) : List UInt8 × List UInt8 := (qA (baseT (x % 4).toNat) (x / 4 % 4).toNat, qB (baseT (x % 4).toNat) (x / 4 % 4).toNat)
theorem pcs_ok (x : Int) : ∃ d, d ≤ 50 ∧ Same2 d (pcs x).1 (pcs x).2 := ⟨1 + (x / 4 % 4).toNat, by omega, same_n (same_base _) _⟩
theorem pcs_len (x : Int) : (pcs x).1.length ≤ 8 ∧ (pcs x).2.length ≤ 29 := by
  have := base_len (x % 4).toNat
  constructor
  · simp only [pcs, qA_len]; omega
  · simp only [pcs, qB_len]; omega
theorem sT_len : ∀ (ps : List (List UInt8 × List UInt8)) (a : Nat), (∀ p ∈ ps, p.1.length ≤ a) → (sT ps).length ≤ (a + 1) * ps.length
  | [], _, _ => Nat.le_refl _
  | p :: ps, a, h => by
    have h1 := h p (List.mem_cons_self ..)
    have h2 := sT_len ps a (fun q hq => h q (List.mem_cons_of_mem _ hq))
    have : sT (p :: ps) = p.1 ++ [32] ++ sT ps := by simp [sT]
    rw [this]
    simp only [List.length_append, List.length_cons, List.length_nil, Nat.mul_add]
    omega
theorem tT_len : ∀ (ps : List (List UInt8 × List UInt8)) (a : Nat), (∀ p ∈ ps, p.2.length ≤ a) → (tT ps).length ≤ (a + 1) * ps.length
  | [], _, _ => Nat.le_refl _
  | p :: ps, a, h => by
    have h1 := h p (List.mem_cons_self ..)
    have h2 := tT_len ps a (fun q hq => h q (List.mem_cons_of_mem _ hq))
    have : tT (p :: ps) = p.2 ++ [32] ++ tT ps := by simp [tT]
    rw [this]
    simp only [List.length_append, List.length_cons, List.length_nil, Nat.mul_add]
    omega
theorem pieces_law (xs : List Int) (h : xs.length ≤ 20) : ∃ R1 R2 tops, readF (sT (xs.map pcs)) = .ok (R1, tops) ∧ readF (tT (xs.map pcs)) = .ok (R2, tops) ∧ R1.map noP = R2.map noP := by
  have h1 := sT_len (xs.map pcs) 8 (fun p hp => by obtain ⟨x, _, rfl⟩ := List.mem_map.1 hp; exact (pcs_len x).1)
  have h2 := tT_len (xs.map pcs) 29 (fun p hp => by obtain ⟨x, _, rfl⟩ := List.mem_map.1 hp; exact (pcs_len x).2)
  rw [List.length_map] at h1 h2
  exact quotes_law _ (fun p hp => by obtain ⟨x, _, rfl⟩ := List.mem_map.1 hp; exact pcs_ok x) (by omega) (by omega)
theorem sT_snoc (xs : List Int) (k : Nat) (x : Int) (h : xs[k]? = some x) : sT ((xs.take (k + 1)).map pcs) = sT ((xs.take k).map pcs) ++ (pcs x).1 ++ [32] := by
  rw [List.take_add_one, h]
  simp [sT]
theorem tT_snoc (xs : List Int) (k : Nat) (x : Int) (h : xs[k]? = some x) : tT ((xs.take (k + 1)).map pcs) = tT ((xs.take k).map pcs) ++ (pcs x).2 ++ [32] := by
  rw [List.take_add_one, h]
  simp [tT]
end Go.Proofs.YthfbkhjcnfjmmaaDoor.ReadP

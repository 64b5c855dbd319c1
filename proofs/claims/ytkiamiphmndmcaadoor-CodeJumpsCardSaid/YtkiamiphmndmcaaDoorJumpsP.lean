/- Of a row of jumps: its depths and what Check tells, in plain words; each states its conditions. -/
import Derived.Test.YtkiamiphmndmcaaDoorPCodesx
namespace Go.Proofs.YtkiamiphmndmcaaDoor.PCodes
open Go Go.RowKit Go.Proofs.YtkiamiphmndmcaaDoorW.PrintWords
/-- the instruction that a byte is -/
def jIns (t : Int) : S38 := ⟨9, t % 16, 0, 0⟩
def jRow (xs : List Int) : List (S38) := ⟨1, 0, 0, 10⟩ :: (xs.map jIns ++ [⟨16, 0, 0, 0⟩])
/-- whether each goes behind itself and within the row: from place k on -/
def jOk (n : Nat) : Nat → Bool → List Int → Bool
  | _, b, [] => b
  | k, b, t :: r => jOk n (k + 1) (b && decide ((k : Int) < t % 16) && decide (t % 16 < n)) r
theorem jOk_false (n : Nat) : ∀ (ys : List Int) (k : Nat), jOk n k false ys = false
  | [], _ => rfl
  | t :: r, k => by simp only [jOk, Bool.false_and]; exact jOk_false n r (k + 1)
/-- the depths ahead of place k + 1 -/
structure jInv (n k : Nat) (d : List Int) : Prop where
  len : d.length = n
  two : ∀ (j : Nat) (x : Int), d[j]? = some x → x = 0 ∨ x = -1
  got : ∀ j, j ≤ k → d[j]? = some 0
theorem jInv.set {n k : Nat} {d : List Int} (h : jInv n k d) (j : Nat) : jInv n k (d.set j 0) := by
  refine ⟨by simpa using h.len, fun i x hi => ?_, fun i hi => ?_⟩
  · rw [List.getElem?_set] at hi
    split at hi
    · split at hi
      · cases hi; exact .inl rfl
      · cases hi
    · exact h.two i x hi
  · rw [List.getElem?_set]
    have h1 := h.got i hi
    have h2 := (List.getElem?_eq_some_iff.1 h1).1
    split
    · rename_i e; subst e; simp [h2]
    · exact h1
theorem jInv.next {n k : Nat} {d : List Int} (h : jInv n k d) (hk : k + 1 < n) : jInv n (k + 1) (d.set (k + 1) 0) := by
  have h2 := h.set (k + 1)
  refine ⟨h2.len, h2.two, fun j hj => ?_⟩
  by_cases e : j = k + 1
  · subst e; rw [List.getElem?_set_self (by rw [h.len]; exact hk)]
  · exact h2.got j (by omega)
theorem jInv.getD {n k : Nat} {d : List Int} (h : jInv n k d) (j : Nat) : d.getD j 0 = 0 ∨ d.getD j 0 = -1 := by
  rw [List.getD_eq_getElem?_getD]
  cases hj : d[j]? with
  | none => exact .inl rfl
  | some x => exact h.two j x hj
theorem jRun (L : List (S38)) : ∀ (ys : List Int) (k : Nat) (d : List Int), L.length = k + ys.length + 1 → jInv L.length k d →
    depRun L k (ys.map jIns ++ [⟨16, 0, 0, 0⟩]) d = if jOk L.length k true ys = true then some (List.replicate L.length 0) else none
  | [], k, d, hl, h => by
    have hg : d.getD k 0 = 0 := by rw [List.getD_eq_getElem?_getD, h.got k (Nat.le_refl _)]; rfl
    have hd : d = List.replicate L.length 0 := by
      apply List.ext_getElem?
      intro j
      by_cases hj : j ≤ k
      · rw [h.got j hj, List.getElem?_replicate_of_lt (by omega)]
      · rw [List.getElem?_eq_none (by rw [h.len]; simp at hl; omega), List.getElem?_eq_none (by simp at hl ⊢; omega)]
    simp only [List.map_nil, List.nil_append, depRun, depStep, hg, jOk, if_true]
    rw [if_neg (by decide), if_neg (by simp [takesP])]
    simp only [followsP]
    simp [depSet, hd]
  | t :: r, k, d, hl, h => by
    have hg : d.getD k 0 = 0 := by rw [List.getD_eq_getElem?_getD, h.got k (Nat.le_refl _)]; rfl
    simp only [List.length_cons] at hl
    have h1 := h.next (show k + 1 < L.length by omega)
    have hs : depStep L k (jIns t) d = if (k : Int) < t % 16 ∧ t % 16 < L.length then some ((d.set (k + 1) 0).set (t % 16).toNat 0) else none := by
      unfold depStep
      rw [hg, if_neg (by decide), if_neg (by simp [takesP, jIns])]
      have hf : followsP (jIns t) k = [(k : Int) + 1, t % 16] := by simp [followsP, jIns]
      have hlf : leftP (jIns t) 0 = 0 := by simp [leftP, takesP, jIns]
      have e1 : ((k : Int) + 1).toNat = k + 1 := by omega
      rw [hf, hlf]
      simp only [depSet, e1]
      rw [if_neg (by
        rintro (h2 | h2 | ⟨h2, h3⟩)
        · omega
        · omega
        · rcases h.getD (k + 1) with h4 | h4
          · exact h3 h4
          · exact h2 h4)]
      by_cases hc : (k : Int) < t % 16 ∧ t % 16 < L.length
      · rw [if_pos hc, if_neg]
        rintro (h2 | h2 | ⟨h2, h3⟩)
        · omega
        · omega
        · rcases h1.getD (t % 16).toNat with h4 | h4
          · exact h3 h4
          · exact h2 h4
      · rw [if_neg hc, if_pos]
        by_cases h2 : t % 16 ≤ (k : Int)
        · exact .inl h2
        · exact .inr (.inl (by omega))
    simp only [List.map_cons, List.cons_append, depRun, hs, jOk, Bool.true_and]
    by_cases hc : (k : Int) < t % 16 ∧ t % 16 < L.length
    · rw [if_pos hc, Option.bind_some, jRun L r (k + 1) _ (by omega) (h1.set _), decide_eq_true hc.1, decide_eq_true hc.2]; rfl
    · rw [if_neg hc, show (decide ((k : Int) < t % 16) && decide (t % 16 < (L.length : Int))) = false by simpa using hc, jOk_false]; simp
theorem jRow_len (xs : List Int) : (jRow xs).length = xs.length + 2 := by simp [jRow]
theorem jDep (xs : List Int) : depOf (jRow xs) = if jOk (xs.length + 2) 1 true xs = true then some (List.replicate (xs.length + 2) 0) else none := by
  have hl := jRow_len xs
  unfold depOf
  have hi : jInv (jRow xs).length 0 (0 :: List.replicate ((jRow xs).length - 1) (-1)) := by
    refine ⟨by simp [hl], fun j x hj => ?_, fun j hj => ?_⟩
    · cases j with
      | zero => simp at hj; exact .inl hj.symm
      | succ j => simp [List.getElem?_replicate] at hj; exact .inr hj.2.symm
    · obtain rfl : j = 0 := by omega
      rfl
  have h1 := hi.next (by rw [hl]; omega)
  have e : depStep (jRow xs) 0 ⟨1, 0, 0, 10⟩ (0 :: List.replicate ((jRow xs).length - 1) (-1)) = some ((0 :: List.replicate ((jRow xs).length - 1) (-1)).set 1 0) := by
    unfold depStep
    rw [List.getD_cons_zero, if_neg (by decide), if_neg (by simp [takesP])]
    simp only [followsP, leftP, takesP]
    simp [hl, depSet, List.replicate_succ]
    omega
  have e2 : jRow xs = ⟨1, 0, 0, 10⟩ :: (xs.map jIns ++ [⟨16, 0, 0, 0⟩]) := rfl
  have e3 : depRun (jRow xs) 0 (jRow xs) (0 :: List.replicate ((jRow xs).length - 1) (-1)) = depRun (jRow xs) 1 (xs.map jIns ++ [⟨16, 0, 0, 0⟩]) ((0 :: List.replicate ((jRow xs).length - 1) (-1)).set 1 0) := by
    conv => lhs; arg 3; rw [e2]
    simp only [depRun, e, Option.bind_some]
  rw [e3, jRun (jRow xs) xs 1 _ (by rw [hl]; omega) h1, hl]
theorem okIns_mk {a b c d : Int} (h : 0 ≤ a ∧ a < 256 ∧ -9223372036854775808 ≤ b ∧ b < 9223372036854775808 ∧ -9223372036854775808 ≤ c ∧ c < 9223372036854775808 ∧ 0 ≤ d ∧ d < 18446744073709551616) : okIns ⟨a, b, c, d⟩ := h
theorem jIns_ok (t : Int) : okIns (jIns t) := okIns_mk (by omega)
theorem jRow_ok (xs : List Int) : ∀ i ∈ jRow xs, okIns i := by
  intro i hi
  simp only [jRow, List.mem_cons, List.mem_append, List.mem_map, List.not_mem_nil, or_false] at hi
  rcases hi with rfl | ⟨t, _, rfl⟩ | rfl
  · exact okIns_mk (by omega)
  · exact jIns_ok t
  · exact okIns_mk (by omega)
theorem jDepth (xs : List Int) (h : xs.length ≤ 12) : code_Depth.f 0 (jRow xs) = some (if jOk (xs.length + 2) 1 true xs = true then (List.replicate (xs.length + 2) 0, true) else ([], false)) := by
  unfold code_Depth.f
  rw [if_neg (by rw [jRow_len]; omega), if_pos ⟨by rw [jRow_len]; omega, jRow_ok xs⟩, jDep]
  by_cases hk : jOk (xs.length + 2) 1 true xs = true
  · rw [if_pos hk, if_pos hk]
  · rw [if_neg hk, if_neg hk]
theorem firstBad_none (bk : Int) : ∀ (is : List (S38)) (ds : List Int) (n : Nat), is.length = ds.length → (∀ (j : Nat) (i : S38) (x : Int), is[j]? = some i → ds[j]? = some x → mayIns bk i x = true) → firstBad bk is ds n = none
  | [], _, _, _, _ => rfl
  | i :: r, [], _, hl, _ => by simp at hl
  | i :: r, x :: ds, n, hl, h => by
    rw [firstBad_cons, if_pos (h 0 i x rfl rfl)]
    exact firstBad_none bk r ds (n + 1) (by simpa using hl) (fun j i' x' h1 h2 => h (j + 1) i' x' (by simpa using h1) (by simpa using h2))
theorem jMay (bk : Int) (xs : List Int) : ∀ i ∈ jRow xs, mayIns bk i 0 = true := by
  intro i hi
  simp only [jRow, List.mem_cons, List.mem_append, List.mem_map, List.not_mem_nil, or_false] at hi
  rcases hi with rfl | ⟨t, _, rfl⟩ | rfl
  · unfold mayIns; simp [hasP]; decide
  · unfold mayIns jIns; simp [hasP]; omega
  · unfold mayIns; simp [hasP]
theorem jCheck (xs : List Int) (h : xs.length ≤ 12) : code_Check.f [⟨0, jRow xs⟩] = some (0, 0, if jOk (xs.length + 2) 1 true xs = true then 0 else 110) := by
  unfold code_Check.f
  rw [if_neg (by simp), if_pos (by intro b hb; simp at hb; subst hb; exact ⟨by show (jRow xs).length ≤ _; rw [jRow_len]; omega, jRow_ok xs⟩)]
  simp only [chkRun, blockBad, jDepth xs h]
  by_cases hk : jOk (xs.length + 2) 1 true xs = true
  · rw [if_pos hk]
    simp only
    rw [if_neg (by simp), firstBad_none _ _ _ _ (by simp [jRow_len]) (fun j i x h1 h2 => by
      rw [List.getElem?_replicate] at h2
      split at h2
      · cases h2; exact jMay _ xs i (List.mem_of_getElem? h1)
      · cases h2)]
    rw [if_pos hk]
  · rw [if_neg hk]
    simp [hk]
end Go.Proofs.YtkiamiphmndmcaaDoor.PCodes

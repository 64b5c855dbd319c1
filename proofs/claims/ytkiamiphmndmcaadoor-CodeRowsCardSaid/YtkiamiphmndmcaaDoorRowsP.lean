/- Blocks once more at the end, in plain words; each states its conditions. -/
import Derived.Test.YtkiamiphmndmcaaDoorFewP
namespace Go.Proofs.YtkiamiphmndmcaaDoor.PCodes
open Go Go.RowKit Go.Proofs.YtkiamiphmndmcaaDoorW.PrintWords Go.Proofs.YtkiamiphmndmcaaDoorW.PrintMore
theorem may_mono {bk : Int} {i : S38} {d : Int} (h : mayIns bk i d = true) : mayIns (bk + 1) i d = true := by
  unfold mayIns at h ⊢
  cases hp : hasP i.f0 with
  | none => rw [hp] at h; cases h
  | some m =>
    rw [hp] at h
    simp only at h ⊢
    by_cases hb : i.f1 < 0 ∨ i.f2 < 0 ∨ (m % 2 = 0 ∧ i.f1 ≠ 0) ∨ (m / 2 % 2 = 0 ∧ i.f2 ≠ 0) ∨ (m / 4 = 0 ∧ i.f3 ≠ 0)
    · rw [if_pos hb] at h; cases h
    · rw [if_neg hb] at h ⊢
      by_cases h10 : i.f0 = 10
      · rw [if_neg (by omega), if_pos h10] at h ⊢
        simp at h ⊢; omega
      · by_cases h1 : i.f0 = 1
        · rw [if_pos h1] at h ⊢; exact h
        · rw [if_neg h1, if_neg h10] at h ⊢; exact h
theorem may_step {bk : Int} {i : S38} {d : Int} (h : mayIns bk i d = false) (k : mayIns (bk + 1) i d = true) : i.f0 = 10 ∧ i.f1 = bk := by
  unfold mayIns at h k
  cases hp : hasP i.f0 with
  | none => rw [hp] at k; cases k
  | some m =>
    rw [hp] at h k
    simp only at h k
    by_cases hb : i.f1 < 0 ∨ i.f2 < 0 ∨ (m % 2 = 0 ∧ i.f1 ≠ 0) ∨ (m / 2 % 2 = 0 ∧ i.f2 ≠ 0) ∨ (m / 4 = 0 ∧ i.f3 ≠ 0)
    · rw [if_pos hb] at k; cases k
    · rw [if_neg hb] at h k
      by_cases h10 : i.f0 = 10
      · rw [if_neg (by omega), if_pos h10] at h k
        simp at h k; omega
      · by_cases h1 : i.f0 = 1
        · rw [if_pos h1] at h k; rw [h] at k; cases k
        · rw [if_neg h1, if_neg h10] at h k; rw [h] at k; cases k
theorem firstBad_mono {bk : Int} : ∀ {is : List (S38)} {ds : List Int} {n : Nat}, firstBad bk is ds n = none → firstBad (bk + 1) is ds n = none
  | [], _, _, _ => rfl
  | i :: r, ds, n, h => by
    simp only [firstBad] at h ⊢
    by_cases hm : mayIns bk i (ds.headD 0) = true
    · rw [if_pos hm] at h; rw [if_pos (may_mono hm)]; exact firstBad_mono h
    · rw [if_neg hm] at h; cases h
theorem firstBad_step {bk : Int} : ∀ {is : List (S38)} {ds : List Int} {n a : Nat}, firstBad bk is ds n = some a → n ≤ a ∧ (firstBad (bk + 1) is ds n = some a ∨ ∃ i, is[a - n]? = some i ∧ i.f0 = 10 ∧ i.f1 = bk)
  | [], _, _, _, h => by cases h
  | i :: r, ds, n, a, h => by
    simp only [firstBad] at h ⊢
    by_cases hm : mayIns bk i (ds.headD 0) = true
    · rw [if_pos hm] at h
      rw [if_pos (may_mono hm)]
      obtain ⟨h1, h2⟩ := firstBad_step h
      refine ⟨by omega, h2.imp id ?_⟩
      rintro ⟨j, hj, hj2⟩
      exact ⟨j, by rw [show a - n = (a - (n + 1)) + 1 by omega]; simpa using hj, hj2⟩
    · rw [if_neg hm] at h
      cases h
      refine ⟨Nat.le_refl _, ?_⟩
      by_cases hm2 : mayIns (bk + 1) i (ds.headD 0) = true
      · exact .inr ⟨i, by simp, may_step (by simpa using hm) hm2⟩
      · rw [if_neg hm2]; exact .inl rfl
theorem bad_mono {bk : Int} {n : Nat} {b : S31} (h : blockBad bk n b = none) : blockBad (bk + 1) n b = none := by
  unfold blockBad at h ⊢
  cases hd : code_Depth.f b.f0 b.f1 with
  | none => rfl
  | some p =>
    rw [hd] at h
    simp only at h ⊢
    split at h
    · cases h
    · rename_i hc; rw [if_neg hc]; exact firstBad_mono h
theorem bad_step {bk : Int} {n a : Nat} {b : S31} (h : blockBad bk n b = some a) : blockBad (bk + 1) n b = some a ∨ ∃ i, b.f1[a]? = some i ∧ i.f0 = 10 ∧ i.f1 = bk := by
  unfold blockBad at h ⊢
  cases hd : code_Depth.f b.f0 b.f1 with
  | none => rw [hd] at h; cases h
  | some p =>
    rw [hd] at h
    simp only at h ⊢
    split at h
    · rename_i hc; rw [if_pos hc]; exact .inl h
    · rename_i hc; rw [if_neg hc]
      have := (firstBad_step h).2
      rwa [Nat.sub_zero] at this
/-- the first block that is wrong, and what follows -/
theorem chk_more {bk : Int} (m : List (S31)) : ∀ {l : List (S31)} {n : Nat}, chkRun bk l n = (0, 0, 0) ∧ (∀ (j : Nat) b, l[j]? = some b → blockBad bk (n + j) b = none) ∨
    ∃ (c tt : Nat) (b : S31), chkRun bk l n = (((n + c : Nat) : Int), (tt : Int), 110) ∧ l[c]? = some b ∧ (chkRun (bk + 1) (l ++ m) n = (((n + c : Nat) : Int), (tt : Int), 110) ∨ ∃ i, b.f1[tt]? = some i ∧ i.f0 = 10 ∧ i.f1 = bk)
  | [], n => .inl ⟨rfl, fun j b hj => by simp at hj⟩
  | a :: r, n => by
    simp only [chkRun, List.cons_append]
    cases hb : blockBad bk n a with
    | some tt =>
      refine .inr ⟨0, tt, a, by simp, rfl, ?_⟩
      rcases bad_step hb with h | h
      · left; rw [h]; simp
      · exact .inr h
    | none =>
      rw [bad_mono hb]
      simp only
      rcases chk_more m (l := r) (n := n + 1) with ⟨h1, h2⟩ | ⟨c, tt, b, h1, h2, h3⟩
      · refine .inl ⟨h1, fun j b hj => ?_⟩
        cases j with
        | zero => simp at hj; subst hj; exact hb
        | succ j => rw [show n + (j + 1) = n + 1 + j by omega]; exact h2 j b (by simpa using hj)
      · exact .inr ⟨c + 1, tt, b, by rw [h1, show n + 1 + c = n + (c + 1) by omega], by simpa using h2, by rw [show n + (c + 1) = n + 1 + c by omega]; exact h3⟩
/-- once more at the end: what Check tells -/
theorem rows_law {x : List (S31)} {k : Nat} {b : S31} (ho : ∀ b ∈ x, okBlock b) (hk : x[k]? = some b) : ∃ c tt r3 f1 f2 f3 : Int, code_Check.f x = some (c, tt, r3) ∧ code_Check.f (x ++ [b]) = some (f1, f2, f3) ∧
    ((r3 = 0 ∧ f1 = 0 ∧ f2 = 0 ∧ f3 = 0) ∨ (r3 = 110 ∧ ∃ by' : Bool, eddywheellaw11_beyond.f x c tt = some by' ∧ ((f3 = 0 ∧ by' = true) ∨ (f3 = 110 ∧ (by' = true ∨ (f1 = c ∧ f2 = tt)))))) := by
  have hkl := (List.getElem?_eq_some_iff.1 hk).1
  have ho2 : ∀ a ∈ x ++ [b], okBlock a := by
    intro a ha
    rcases List.mem_append.1 ha with h | h
    · exact ho a h
    · simp at h; subst h; exact ho _ (List.mem_of_getElem? hk)
  have h1 := check_some x ho
  have h2 := check_some (x ++ [b]) ho2
  rw [if_neg (by omega)] at h1
  rw [if_neg (by simp)] at h2
  have e : (((x ++ [b]).length : Nat) : Int) = (x.length : Int) + 1 := by simp
  rw [e] at h2
  rcases chk_more (bk := x.length) [b] (l := x) (n := 0) with ⟨g1, g2⟩ | ⟨c, tt, b', g1, g2, g3⟩
  · refine ⟨0, 0, 0, 0, 0, 0, by rw [h1, g1], ?_, .inl ⟨rfl, rfl, rfl, rfl⟩⟩
    rw [h2, chk_all _ _ 0 (fun j a hj => ?_)]
    by_cases hjx : j < x.length
    · rw [List.getElem?_append_left hjx] at hj
      exact bad_mono (g2 j a hj)
    · rw [List.getElem?_append_right (by omega)] at hj
      have hj0 : j - x.length = 0 := by
        have := (List.getElem?_eq_some_iff.1 hj).1
        simp at this; omega
      rw [hj0] at hj
      simp at hj; subst hj
      have hb := bad_mono (g2 k b hk)
      -- the place of a block matters for the first one alone
      unfold blockBad at hb ⊢
      cases hd : code_Depth.f b.f0 b.f1 with
      | none => rfl
      | some p =>
        rw [hd] at hb
        simp only at hb ⊢
        split at hb
        · cases hb
        · rename_i hc
          rw [if_neg (by
            rintro (h | h | h | h | h)
            · exact hc (.inl h)
            · exact hc (.inr (.inl h))
            · exact hc (.inr (.inr (.inl h)))
            · omega
            · exact hc (.inr (.inr (.inr (.inr h)))))]
          exact hb
  · rw [Nat.zero_add] at g1 g3
    have hcl := (List.getElem?_eq_some_iff.1 g2).1
    have hrd : rd_T31 x (c : Int) = b' := by
      unfold rd_T31; rw [Int.toNat_natCast, List.getD_eq_getElem?_getD, g2]; rfl
    have hby : ∃ by' : Bool, eddywheellaw11_beyond.f x (c : Int) (tt : Int) = some by' ∧ ((∃ i, b'.f1[tt]? = some i ∧ i.f0 = 10 ∧ i.f1 = (x.length : Int)) → by' = true) := by
      unfold eddywheellaw11_beyond.f
      rw [if_pos (by omega), if_pos (by omega), hrd]
      by_cases ht : tt < b'.f1.length
      · have hri : rd_T38 b'.f1 (tt : Int) = b'.f1[tt] := by
          unfold rd_T38; rw [Int.toNat_natCast, List.getD_eq_getElem?_getD, List.getElem?_eq_getElem ht]; rfl
        rw [if_pos (by omega), if_pos (by omega), hri]
        by_cases h10 : b'.f1[tt].f0 = 10
        · rw [if_pos h10]
          refine ⟨_, rfl, ?_⟩
          rintro ⟨i, hi, _, hi2⟩
          rw [List.getElem?_eq_getElem ht] at hi
          cases hi
          simpa using hi2
        · rw [if_neg h10]
          refine ⟨_, rfl, ?_⟩
          rintro ⟨i, hi, hi2, _⟩
          rw [List.getElem?_eq_getElem ht] at hi
          cases hi
          exact absurd hi2 h10
      · rw [if_neg (by omega)]
        refine ⟨_, rfl, ?_⟩
        rintro ⟨i, hi, _⟩
        rw [List.getElem?_eq_none (by omega)] at hi
        cases hi
    obtain ⟨by', hby1, hby2⟩ := hby
    have hcd := chk_codes ((x.length : Int) + 1) (x ++ [b]) 0
    obtain ⟨f, hf⟩ : ∃ f, chkRun ((x.length : Int) + 1) (x ++ [b]) 0 = f := ⟨_, rfl⟩
    rw [hf] at hcd g3
    obtain ⟨f1, f2, f3⟩ := f
    simp only at hcd
    refine ⟨c, tt, 110, f1, f2, f3, by rw [h1, g1], by rw [h2, hf], .inr ⟨rfl, by', hby1, ?_⟩⟩
    rcases g3 with h | h
    · simp only [Prod.mk.injEq] at h
      exact .inr ⟨h.2.2, .inr ⟨h.1, h.2.1⟩⟩
    · rcases hcd with h0 | h0
      · exact .inl ⟨h0, hby2 h⟩
      · exact .inr ⟨h0, .inl (hby2 h)⟩
end Go.Proofs.YtkiamiphmndmcaaDoor.PCodes

/- The depths of a block that may be, in plain words; each states its conditions. -/
import Derived.Test.YtkiamiphmndmcaaDoorFewP
namespace Go.Proofs.YtkiamiphmndmcaaDoor.PCodes
open Go Go.RowKit Go.Proofs.YtkiamiphmndmcaaDoorW.PrintWords Go.Proofs.YtkiamiphmndmcaaDoorW.PrintMore
theorem set_getD (d : List Int) (p : Nat) (l : Int) (j : Nat) : (d.set p l).getD j 0 = if p = j ∧ p < d.length then l else d.getD j 0 := by
  rw [List.getD_eq_getElem?_getD, List.getElem?_set, List.getD_eq_getElem?_getD]
  by_cases h : p = j
  · subst h
    by_cases h2 : p < d.length
    · simp [h2]
    · rw [if_pos rfl, if_neg h2, if_neg (fun h => h2 h.2), List.getElem?_eq_none (by omega)]
  · rw [if_neg h, if_neg (fun h' => h h'.1)]
theorem depSet_spec {n a l : Int} (h0 : 0 ≤ a) (hl : l ≠ -1) : ∀ {ps d d' : List Int}, n = d.length → depSet n a l d ps = some d' →
    (∀ p ∈ ps, a < p ∧ p < n ∧ d'.getD p.toNat 0 = l) ∧ (∀ j : Nat, (j : Int) ≤ a → d'.getD j 0 = d.getD j 0) ∧ (∀ j : Nat, d.getD j 0 ≠ -1 → d'.getD j 0 = d.getD j 0)
  | [], d, d', _, h => by
    simp only [depSet, Option.some.injEq] at h
    subst h
    exact ⟨by simp, fun _ _ => rfl, fun _ _ => rfl⟩
  | p :: r, d, d', hn, h => by
    simp only [depSet] at h
    split at h
    · cases h
    · rename_i hc
      have hp1 : a < p := by omega
      have hp2 : p < n := by omega
      have hv : d.getD p.toNat 0 = -1 ∨ d.getD p.toNat 0 = l := by
        by_cases e1 : d.getD p.toNat 0 = -1
        · exact .inl e1
        · by_cases e2 : d.getD p.toNat 0 = l
          · exact .inr e2
          · exact absurd (.inr (.inr ⟨e1, e2⟩)) hc
      obtain ⟨r1, r2, r3⟩ := depSet_spec h0 hl (by simpa using hn) h
      have hs : (d.set p.toNat l).getD p.toNat 0 = l := by rw [set_getD, if_pos ⟨rfl, by omega⟩]
      refine ⟨fun q hq => ?_, fun j hj => ?_, fun j hj => ?_⟩
      · rcases List.mem_cons.1 hq with rfl | hq
        · exact ⟨hp1, hp2, by rw [r3 _ (by rw [hs]; exact hl), hs]⟩
        · exact r1 q hq
      · rw [r2 j hj, set_getD, if_neg (by omega)]
      · have e : (d.set p.toNat l).getD j 0 = d.getD j 0 := by
          rw [set_getD]
          split
          · rename_i h2
            obtain ⟨rfl, _⟩ := h2
            rcases hv with h3 | h3
            · exact absurd h3 hj
            · exact h3.symm
          · rfl
        rw [r3 j (by rw [e]; exact hj), e]
theorem depRun_spec {L : List (S38)} : ∀ {is : List (S38)} {k : Nat} {d d' : List Int}, d.length = L.length → depRun L k is d = some d' →
    (∀ j : Nat, j ≤ k → is ≠ [] → d'.getD j 0 = d.getD j 0) ∧ (∀ j : Nat, d.getD j 0 ≠ -1 → d'.getD j 0 = d.getD j 0) ∧
    (∀ (j : Nat) (i : S38), is[j]? = some i → d'.getD (k + j) 0 ≠ -1 → 0 ≤ takesP i ∧ takesP i ≤ d'.getD (k + j) 0 ∧ ∀ p ∈ followsP i ((k + j : Nat) : Int), ((k + j : Nat) : Int) < p ∧ p < L.length ∧ d'.getD p.toNat 0 = leftP i (d'.getD (k + j) 0))
  | [], k, d, d', _, h => by
    simp only [depRun, Option.some.injEq] at h
    subst h
    exact ⟨fun _ _ _ => rfl, fun _ _ => rfl, fun j i hj => by simp at hj⟩
  | i :: r, k, d, d', hl, h => by
    simp only [depRun] at h
    cases h1 : depStep L k i d with
    | none => rw [h1] at h; cases h
    | some d1 =>
      rw [h1, Option.bind_some] at h
      have hl1 : d1.length = L.length := by rw [depStep_len h1, hl]
      obtain ⟨r1, r2, r3⟩ := depRun_spec hl1 h
      -- the step itself
      have st : (∀ j : Nat, j ≤ k → d1.getD j 0 = d.getD j 0) ∧ (∀ j : Nat, d.getD j 0 ≠ -1 → d1.getD j 0 = d.getD j 0) ∧
          (d.getD k 0 ≠ -1 → 0 ≤ takesP i ∧ takesP i ≤ d.getD k 0 ∧ ∀ p ∈ followsP i (k : Int), (k : Int) < p ∧ p < L.length ∧ d1.getD p.toNat 0 = leftP i (d.getD k 0)) := by
        unfold depStep at h1
        by_cases e : d.getD k 0 = -1
        · rw [if_pos e] at h1
          cases h1
          exact ⟨fun _ _ => rfl, fun _ _ => rfl, fun h => absurd e h⟩
        · rw [if_neg e] at h1
          split at h1
          · cases h1
          · rename_i hc
            have hlp := leftP_range i (d.getD k 0) (by omega) (by omega)
            obtain ⟨s1, s2, s3⟩ := depSet_spec (Int.natCast_nonneg k) (show leftP i (d.getD k 0) ≠ -1 by omega) (by omega) h1
            exact ⟨fun j hj => s2 j (by omega), s3, fun _ => ⟨by omega, by omega, s1⟩⟩
      obtain ⟨s1, s2, s3⟩ := st
      have keep : ∀ j : Nat, j ≤ k → d'.getD j 0 = d.getD j 0 := by
        intro j hj
        by_cases hr : r = []
        · subst hr
          simp only [depRun, Option.some.injEq] at h
          subst h
          exact s1 j hj
        · rw [r1 j (by omega) hr, s1 j hj]
      refine ⟨fun j hj _ => keep j hj, fun j hj => by rw [r2 j (by rw [s2 j hj]; exact hj), s2 j hj], fun j i' hj hne => ?_⟩
      cases j with
      | zero =>
        simp only [List.getElem?_cons_zero, Option.some.injEq] at hj
        subst hj
        rw [Nat.add_zero] at hne ⊢
        rw [keep k (Nat.le_refl _)] at hne ⊢
        obtain ⟨t1, t2, t3⟩ := s3 hne
        refine ⟨t1, t2, fun p hp => ?_⟩
        obtain ⟨u1, u2, u3⟩ := t3 p hp
        have hlp := leftP_range i (d.getD k 0) t1 t2
        exact ⟨u1, u2, by rw [r2 _ (by rw [u3]; omega), u3]⟩
      | succ j =>
        have := r3 j i' (by simpa using hj)
        rw [show k + 1 + j = k + (j + 1) by omega] at this
        exact this hne
theorem depOf_spec {L : List (S38)} {d : List Int} (h0 : 0 < L.length) (h : depOf L = some d) : d.getD 0 0 = 0 ∧
    (∀ (j : Nat) (i : S38), L[j]? = some i → d.getD j 0 ≠ -1 → 0 ≤ takesP i ∧ takesP i ≤ d.getD j 0 ∧ ∀ p ∈ followsP i (j : Int), (j : Int) < p ∧ p < L.length ∧ d.getD p.toNat 0 = leftP i (d.getD j 0)) := by
  unfold depOf at h
  obtain ⟨r1, _, r3⟩ := depRun_spec (by simp; omega) h
  refine ⟨by rw [r1 0 (Nat.le_refl _) (by intro e; rw [e] at h0; simp at h0)]; rfl, fun j i hj hne => ?_⟩
  have := r3 j i hj
  rw [Nat.zero_add] at this
  exact this hne
/-- what a way through a block meets: the depth told, and an instruction that may be -/
structure Fine (bk : Int) (L : List (S38)) (d : List Int) : Prop where
  pos : 0 < L.length
  len : d.length = L.length
  zero : d.getD 0 0 = 0
  at_ : ∀ (j : Nat) (i : S38), L[j]? = some i → 0 ≤ d.getD j 0 ∧ d.getD j 0 ≤ j ∧ 0 ≤ takesP i ∧ takesP i ≤ d.getD j 0 ∧ mayIns bk i (d.getD j 0) = true ∧ ∀ p ∈ followsP i (j : Int), (j : Int) < p ∧ p < L.length ∧ d.getD p.toNat 0 = leftP i (d.getD j 0)
theorem depSet_dOk {n a l : Int} (h0 : 0 ≤ a) (hl : 0 ≤ l ∧ l ≤ a + 1) : ∀ {ps d d' : List Int}, dOk d → depSet n a l d ps = some d' → dOk d'
  | [], d, d', hd, h => by simp only [depSet, Option.some.injEq] at h; subst h; exact hd
  | p :: r, d, d', hd, h => by
    simp only [depSet] at h
    split at h
    · cases h
    · exact depSet_dOk h0 hl (dOk_set hd _ _ (by omega) (by omega)) h
theorem depRun_dOk {L : List (S38)} : ∀ {is : List (S38)} {k : Nat} {d d' : List Int}, k + is.length = d.length → dOk d → depRun L k is d = some d' → dOk d'
  | [], _, d, d', _, hd, h => by simp only [depRun, Option.some.injEq] at h; subst h; exact hd
  | i :: r, k, d, d', hl, hd, h => by
    simp only [depRun] at h
    cases h1 : depStep L k i d with
    | none => rw [h1] at h; cases h
    | some d1 =>
      rw [h1, Option.bind_some] at h
      refine depRun_dOk (by rw [depStep_len h1]; simp at hl; omega) ?_ h
      unfold depStep at h1
      split at h1
      · cases h1; exact hd
      · split at h1
        · cases h1
        · rename_i e hc
          have hlp := leftP_range i (d.getD k 0) (by omega) (by omega)
          have hk := dOk_get hd k (by simp at hl; omega)
          exact depSet_dOk (Int.natCast_nonneg k) ⟨hlp.1, by omega⟩ hd h1
theorem fine_of {bk : Int} {b : S31} {d : List Int} (h1 : depOf b.f1 = some d) (h0 : 0 < b.f1.length) (hl : d.length = b.f1.length) (hn : (-1) ∉ d) (hf : firstBad bk b.f1 d 0 = none) : Fine bk b.f1 d := by
  obtain ⟨z, sp⟩ := depOf_spec h0 h1
  have hd : dOk d := by
    refine depRun_dOk (k := 0) (by simp; omega) ?_ h1
    intro j x hj
    cases j with
    | zero => simp at hj; omega
    | succ j => simp [List.getElem?_replicate] at hj; omega
  refine ⟨h0, hl, z, fun j i hj => ?_⟩
  have hlt := (List.getElem?_eq_some_iff.1 hj).1
  have hg : d[j]? = some (d.getD j 0) := by rw [List.getD_eq_getElem?_getD, List.getElem?_eq_getElem (by omega)]; rfl
  have hne : d.getD j 0 ≠ -1 := fun e => hn (by rw [← e]; exact List.mem_of_getElem? hg)
  have := dOk_get hd j (by omega)
  obtain ⟨t1, t2, t3⟩ := sp j i hj hne
  exact ⟨by omega, this.2, t1, t2, firstBad_may (by omega) hf j i _ hj hg, t3⟩
end Go.Proofs.YtkiamiphmndmcaaDoor.PCodes

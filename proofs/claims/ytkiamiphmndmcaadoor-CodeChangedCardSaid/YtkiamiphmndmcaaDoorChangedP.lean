/- Of blocks that may be one with an instruction changed, in plain words; each states its conditions. -/
import Derived.Test.YtkiamiphmndmcaaDoorFewP
namespace Go.Proofs.YtkiamiphmndmcaaDoor.PCodes
open Go Go.RowKit Go.Proofs.YtkiamiphmndmcaaDoorW.PrintWords Go.Proofs.YtkiamiphmndmcaaDoorW.PrintMore
/-- what the depths hang on -/
structure Same (i j : S38) : Prop where
  op : i.f0 = j.f0
  a : i.f1 = j.f1
  b : i.f0 = 11 → i.f2 = j.f2
theorem Same.refl (i : S38) : Same i i := ⟨rfl, rfl, fun _ => rfl⟩
theorem Same.takes {i j : S38} (h : Same i j) : takesP i = takesP j := by
  unfold takesP
  rw [← h.op, ← h.a]
  by_cases e : i.f0 = 11
  · rw [if_pos e, if_pos e, h.b e]
  · rw [if_neg e, if_neg e]
theorem Same.left {i j : S38} (h : Same i j) (x : Int) : leftP i x = leftP j x := by unfold leftP; rw [h.takes, h.op]
theorem Same.follows {i j : S38} (h : Same i j) (k : Int) : followsP i k = followsP j k := by unfold followsP; rw [h.op, h.a]
theorem Same.step {L M : List (S38)} (hl : L.length = M.length) {i j : S38} (h : Same i j) (k : Nat) (d : List Int) : depStep L k i d = depStep M k j d := by
  unfold depStep; rw [h.takes, h.left, h.follows, hl]
theorem Same.run {L M : List (S38)} (hl : L.length = M.length) : ∀ {is js : List (S38)} (k : Nat) (d : List Int), is.length = js.length → (∀ (n : Nat) (i j : S38), is[n]? = some i → js[n]? = some j → Same i j) → depRun L k is d = depRun M k js d
  | [], [], _, _, _, _ => rfl
  | i :: r, j :: s, k, d, h1, h2 => by
    simp only [depRun]
    rw [(h2 0 i j rfl rfl).step hl]
    congr 1
    funext d'
    exact Same.run hl (k + 1) d' (by simpa using h1) (fun n a b ha hb => h2 (n + 1) a b (by simpa using ha) (by simpa using hb))
  | [], _ :: _, _, _, h, _ => by simp at h
  | _ :: _, [], _, _, h, _ => by simp at h
theorem same_dep {L : List (S38)} {j : Nat} {i i' : S38} (hi : L[j]? = some i) (h : Same i i') : depOf (L.set j i') = depOf L := by
  unfold depOf
  rw [List.length_set]
  refine Same.run (by simp) 0 _ (by simp) (fun n a b ha hb => ?_)
  rw [List.getElem?_set] at ha
  split at ha
  · rename_i e
    subst e
    split at ha
    · cases ha
      rw [hi] at hb; cases hb
      exact ⟨h.op.symm, h.a.symm, fun e => (h.b (h.op.trans e)).symm⟩
    · cases ha
  · rw [hb] at ha; cases ha; exact Same.refl _
theorem firstBad_here {bk : Int} : ∀ {is : List (S38)} {ds : List Int} {n j : Nat} {i : S38} {x : Int}, is[j]? = some i → ds[j]? = some x → mayIns bk i x = false →
    (∀ (m : Nat) (a : S38) (y : Int), m < j → is[m]? = some a → ds[m]? = some y → mayIns bk a y = true) → firstBad bk is ds n = some (n + j)
  | [], _, _, j, _, _, h, _, _, _ => by simp at h
  | _ :: _, [], _, j, _, _, _, h, _, _ => by simp at h
  | a :: r, y :: ds, n, j, i, x, h1, h2, h3, h4 => by
    rw [firstBad_cons]
    cases j with
    | zero => simp at h1 h2; subst h1 h2; rw [if_neg (by rw [h3]; simp)]; rfl
    | succ j =>
      rw [if_pos (h4 0 a y (by omega) rfl rfl), firstBad_here (by simpa using h1) (by simpa using h2) h3 (fun m a y hm ha hy => h4 (m + 1) a y (by omega) (by simpa using ha) (by simpa using hy))]
      congr 1; omega
/-- one instruction changed to one that may not be: it is told -/
theorem changed_bad {bk : Int} {n j : Nat} {b : S31} {i i' : S38} (hb : okBlock b) (hf : blockBad bk n b = none) (hi : b.f1[j]? = some i) (hs : Same i i') (ho : okIns i') (hm : ∀ x, mayIns bk i' x = false) :
    okBlock ⟨b.f0, b.f1.set j i'⟩ ∧ blockBad bk n ⟨b.f0, b.f1.set j i'⟩ = some j := by
  obtain ⟨d, _, hd, h0, hl, b0, b1, b2, hn, hfb⟩ := bad_none hb hf
  have hok : okBlock ⟨b.f0, b.f1.set j i'⟩ := by
    refine ⟨by simpa using hb.1, fun a ha => ?_⟩
    rcases List.mem_or_eq_of_mem_set ha with h | rfl
    · exact hb.2 a h
    · exact ho
  have hjl := (List.getElem?_eq_some_iff.1 hi).1
  refine ⟨hok, ?_⟩
  have hdep : code_Depth.f b.f0 (b.f1.set j i') = some (d, true) := by
    unfold code_Depth.f
    have h2 := hok
    unfold okBlock at h2
    rw [if_neg (by rw [List.length_set]; omega), if_pos h2, same_dep hi hs, hd]
  unfold blockBad
  rw [hdep]
  simp only
  rw [if_neg (by
    rintro (h | h | h | h | h)
    · cases h
    · omega
    · omega
    · exact h.2 (b2 h.1)
    · exact hn (List.contains_iff_mem.1 h))]
  have := firstBad_here (bk := bk) (is := b.f1.set j i') (ds := d) (n := 0) (j := j) (i := i') (x := d.getD j 0) (by rw [List.getElem?_set_self hjl]) (by rw [List.getD_eq_getElem?_getD, List.getElem?_eq_getElem (by omega)]; rfl) (hm _) (fun m a y hm' ha hy => by
    rw [List.getElem?_set_ne (by omega)] at ha
    exact firstBad_may (by omega) hfb m a y ha hy)
  rw [this]; congr 1; omega
theorem chk_at {bk : Int} : ∀ {l : List (S31)} {n k j : Nat} {b : S31}, l[k]? = some b → blockBad bk (n + k) b = some j → (∀ (m : Nat) a, m < k → l[m]? = some a → blockBad bk (n + m) a = none) → chkRun bk l n = (((n + k : Nat) : Int), (j : Int), 110)
  | [], _, k, _, _, h, _, _ => by simp at h
  | a :: r, n, k, j, b, h1, h2, h3 => by
    simp only [chkRun]
    cases k with
    | zero => simp at h1; subst h1; rw [show blockBad bk n a = some j from h2]; simp
    | succ k =>
      rw [show blockBad bk n a = none from h3 0 a (by omega) rfl]
      simp only
      rw [chk_at (n := n + 1) (by simpa using h1) (by rw [show n + 1 + k = n + (k + 1) by omega]; exact h2) (fun m a hm ha => by rw [show n + 1 + m = n + (m + 1) by omega]; exact h3 (m + 1) a (by omega) (by simpa using ha))]
      rw [show n + 1 + k = n + (k + 1) by omega]
theorem changed_chk {x : List (S31)} {k j : Nat} {b : S31} {i i' : S38} (ho : ∀ b ∈ x, okBlock b) (hx : chkRun x.length x 0 = (0, 0, 0)) (hk : x[k]? = some b) (hi : b.f1[j]? = some i) (hs : Same i i') (hi' : okIns i') (hm : ∀ y, mayIns x.length i' y = false) :
    code_Check.f (x.set k ⟨b.f0, b.f1.set j i'⟩) = some ((k : Int), (j : Int), 110) := by
  have hf := chk_fine x.length x 0 (by rw [hx])
  have hkl := (List.getElem?_eq_some_iff.1 hk).1
  obtain ⟨h1, h2⟩ := changed_bad (ho b (List.mem_of_getElem? hk)) (by have := hf k b hk; rwa [Nat.zero_add] at this) hi hs hi' hm
  rw [check_some _ (fun a ha => by
    rcases List.mem_or_eq_of_mem_set ha with h | rfl
    · exact ho a h
    · exact h1), List.length_set, if_neg (by omega), chk_at (n := 0) (k := k) (j := j) (by rw [List.getElem?_set_self hkl]) (by rw [Nat.zero_add]; exact h2) (fun m a hm ha => by
    rw [List.getElem?_set_ne (by omega)] at ha
    exact hf m a ha), Nat.zero_add]
/-- what is changed, by the third number -/
def chgP (h : Int) (i : S38) : S38 := if h = 0 then (if i.f0 = 1 then ⟨i.f0, i.f1, 1, i.f3⟩ else ⟨i.f0, i.f1, i.f2, 8⟩)
  else if h = 1 then (if i.f0 = 11 then ⟨i.f0, i.f1, i.f2, 1⟩ else if i.f0 = 2 ∨ i.f0 = 4 then ⟨i.f0, i.f1, -1, i.f3⟩ else ⟨i.f0, i.f1, 1, i.f3⟩) else ⟨i.f0, i.f1, i.f2, 17⟩
theorem chg_ok {h : Int} {i : S38} (ho : okIns i) : okIns (chgP h i) := by
  obtain ⟨h0, h1, h2, h3, h4, h5, h6, h7⟩ := ho
  unfold chgP
  repeat' split
  all_goals exact ⟨h0, h1, h2, h3, by first | exact h4 | (simp; done), by first | exact h5 | (simp; done), by first | exact h6 | (simp; done), by first | exact h7 | (simp; done)⟩
theorem chg_same {h : Int} {i : S38} : Same i (chgP h i) := by
  unfold chgP
  repeat' split
  all_goals exact ⟨rfl, rfl, fun e => by first | rfl | (exfalso; omega)⟩
theorem chg_bad {bk h : Int} {i : S38} {x0 : Int} (hm : mayIns bk i x0 = true) (x : Int) : mayIns bk (chgP h i) x = false := by
  have hop : (chgP h i).f0 = i.f0 := chg_same.op.symm
  obtain ⟨m, hp⟩ : ∃ m, hasP i.f0 = some m := by
    unfold mayIns at hm
    cases e : hasP i.f0 with
    | none => rw [e] at hm; cases hm
    | some m => exact ⟨m, rfl⟩
  have bad : badP m (chgP h i).f1 (chgP h i).f2 (chgP h i).f3 → mayIns bk (chgP h i) x = false := by
    intro hb
    unfold mayIns
    rw [hop, hp]
    simp only
    unfold badP at hb
    rw [if_pos hb]
  have ops := hasP_ops hp
  unfold badP at bad
  unfold hasP at hp
  by_cases h0 : h = 0
  · by_cases e : i.f0 = 1
    · refine bad (.inr (.inr (.inr (.inl ?_))))
      simp [e] at hp
      simp [chgP, h0, e, ← hp]
    · refine bad (.inr (.inr (.inr (.inr ?_))))
      have : m = 3 ∨ m = 1 ∨ m = 0 := by (repeat' split at hp) <;> simp at hp <;> omega
      simp [chgP, h0, e]; omega
  · by_cases h1 : h = 1
    · by_cases e : i.f0 = 11
      · refine bad (.inr (.inr (.inr (.inr ?_))))
        simp [e] at hp
        simp [chgP, h1, e, ← hp]
      · by_cases e2 : i.f0 = 2 ∨ i.f0 = 4
        · refine bad (.inr (.inl ?_))
          simp [chgP, h1, e, e2]
        · refine bad (.inr (.inr (.inr (.inl ?_))))
          have : m = 4 ∨ m = 1 ∨ m = 0 := by (repeat' split at hp) <;> simp at hp <;> omega
          simp [chgP, h1, e, e2]; omega
    · by_cases e : i.f0 = 1
      · have hc : chgP h i = ⟨1, i.f1, i.f2, 17⟩ := by simp [chgP, h0, h1, e]
        rw [hc]
        unfold mayIns
        simp only [show hasP 1 = some 4 from rfl]
        split
        · rfl
        · simp; intro _; decide
      · refine bad (.inr (.inr (.inr (.inr ?_))))
        have : m = 3 ∨ m = 1 ∨ m = 0 := by (repeat' split at hp) <;> simp at hp <;> omega
        simp [chgP, h0, h1]; omega
end Go.Proofs.YtkiamiphmndmcaaDoor.PCodes

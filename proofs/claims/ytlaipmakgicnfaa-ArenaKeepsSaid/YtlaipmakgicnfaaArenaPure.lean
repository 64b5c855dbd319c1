/- Plain lists of things laid as words and heads, and lemmas about them; no conditions beyond those each states. -/
namespace Go.Proofs.Ytlaipmakgicnfaa.Ar
/-- a thing: its kind, its words -/
abbrev Thing := Int × List Int
/-- how many words things take -/
def tot : List Thing → Nat
  | [] => 0
  | o :: r => o.2.length + 1 + tot r
theorem tot_cons (o : Thing) (r : List Thing) : tot (o :: r) = o.2.length + 1 + tot r := rfl
/-- the words and the heads that things are laid as -/
def flatW : List Thing → List Int
  | [] => []
  | o :: r => ((o.2.length : Int) * 256 + o.1) :: (o.2 ++ flatW r)
def flatH : List Thing → List Bool
  | [] => []
  | o :: r => true :: (List.replicate o.2.length false ++ flatH r)
/-- the thing whose place is `at` -/
def look : List Thing → Nat → Option Thing
  | [], _ => none
  | o :: r, a => if a = 0 then some o else if a ≤ o.2.length then none else look r (a - (o.2.length + 1))
/-- things, where word i of the one at `at` is x -/
def setT : List Thing → Nat → Nat → Int → List Thing
  | [], _, _, _ => []
  | o :: r, a, i, x => if a = 0 then (o.1, o.2.set i x) :: r else if a ≤ o.2.length then o :: r else o :: setT r (a - (o.2.length + 1)) i x
theorem flatW_len (l : List Thing) : (flatW l).length = tot l := by
  induction l with
  | nil => rfl
  | cons o r ih => simp only [flatW, tot, List.length_cons, List.length_append, ih]; omega
theorem flatH_len (l : List Thing) : (flatH l).length = tot l := by
  induction l with
  | nil => rfl
  | cons o r ih => simp only [flatH, tot, List.length_cons, List.length_append, List.length_replicate, ih]; omega
theorem tot_append (l m : List Thing) : tot (l ++ m) = tot l + tot m := by
  induction l with
  | nil => simp [tot]
  | cons o r ih => simp only [List.cons_append, tot, ih]; omega
theorem flatW_append (l m : List Thing) : flatW (l ++ m) = flatW l ++ flatW m := by
  induction l with
  | nil => rfl
  | cons o r ih => simp [flatW, ih]
theorem flatH_append (l m : List Thing) : flatH (l ++ m) = flatH l ++ flatH m := by
  induction l with
  | nil => rfl
  | cons o r ih => simp [flatH, ih]
theorem look_lt {l : List Thing} {a : Nat} {o : Thing} (h : look l a = some o) : a + o.2.length + 1 ≤ tot l := by
  induction l generalizing a with
  | nil => simp [look] at h
  | cons p r ih =>
    simp only [look] at h
    by_cases h0 : a = 0
    · rw [if_pos h0] at h; cases h; simp only [tot]; omega
    · rw [if_neg h0] at h
      by_cases h1 : a ≤ p.2.length
      · rw [if_pos h1] at h; cases h
      · rw [if_neg h1] at h; have := ih h; simp only [tot]; omega
theorem look_head (l : List Thing) (a : Nat) : (flatH l)[a]? = if a < tot l then some (look l a).isSome else none := by
  induction l generalizing a with
  | nil => simp [flatH, tot]
  | cons o r ih =>
    cases a with
    | zero => simp [flatH, look, tot]
    | succ a =>
      rw [tot_cons]
      simp only [flatH, List.getElem?_cons_succ, look]
      rw [if_neg (show ¬ a + 1 = 0 by omega)]
      by_cases h : a < o.2.length
      · rw [List.getElem?_append_left (by simpa using h), if_pos (by omega), if_pos (by omega)]
        simp [h]
      · rw [List.getElem?_append_right (by simpa using h), List.length_replicate, ih, if_neg (show ¬ a + 1 ≤ o.2.length by omega), show a + 1 - (o.2.length + 1) = a - o.2.length by omega]
        by_cases h2 : a - o.2.length < tot r
        · rw [if_pos h2, if_pos (show a + 1 < o.2.length + 1 + tot r by omega)]
        · rw [if_neg h2, if_neg (show ¬ a + 1 < o.2.length + 1 + tot r by omega)]
theorem look_word {l : List Thing} {a : Nat} {o : Thing} (h : look l a = some o) : (flatW l)[a]? = some ((o.2.length : Int) * 256 + o.1) := by
  induction l generalizing a with
  | nil => simp [look] at h
  | cons p r ih =>
    simp only [look] at h
    by_cases h0 : a = 0
    · rw [if_pos h0] at h; cases h; subst h0; simp [flatW]
    · rw [if_neg h0] at h
      by_cases h1 : a ≤ p.2.length
      · rw [if_pos h1] at h; cases h
      · rw [if_neg h1] at h
        obtain ⟨b, rfl⟩ : ∃ b, a = p.2.length + 1 + b := ⟨a - (p.2.length + 1), by omega⟩
        rw [show p.2.length + 1 + b - (p.2.length + 1) = b by omega] at h
        simp only [flatW]
        rw [show p.2.length + 1 + b = (p.2.length + b) + 1 by omega, List.getElem?_cons_succ, List.getElem?_append_right (by omega), show p.2.length + b - p.2.length = b by omega]
        exact ih h
theorem look_field {l : List Thing} {a : Nat} {o : Thing} (h : look l a = some o) (i : Nat) (hi : i < o.2.length) : (flatW l)[a + 1 + i]? = o.2[i]? := by
  induction l generalizing a with
  | nil => simp [look] at h
  | cons p r ih =>
    simp only [look] at h
    by_cases h0 : a = 0
    · rw [if_pos h0] at h; cases h; subst h0
      simp only [flatW]
      rw [show 0 + 1 + i = i + 1 by omega, List.getElem?_cons_succ, List.getElem?_append_left hi]
    · rw [if_neg h0] at h
      by_cases h1 : a ≤ p.2.length
      · rw [if_pos h1] at h; cases h
      · rw [if_neg h1] at h
        obtain ⟨b, rfl⟩ : ∃ b, a = p.2.length + 1 + b := ⟨a - (p.2.length + 1), by omega⟩
        rw [show p.2.length + 1 + b - (p.2.length + 1) = b by omega] at h
        simp only [flatW]
        rw [show p.2.length + 1 + b + 1 + i = (p.2.length + (b + 1 + i)) + 1 by omega, List.getElem?_cons_succ, List.getElem?_append_right (by omega), show p.2.length + (b + 1 + i) - p.2.length = b + 1 + i by omega]
        exact ih h
theorem setT_W {l : List Thing} {a : Nat} {o : Thing} (h : look l a = some o) (i : Nat) (hi : i < o.2.length) (x : Int) : flatW (setT l a i x) = (flatW l).set (a + 1 + i) x := by
  induction l generalizing a with
  | nil => simp [look] at h
  | cons p r ih =>
    simp only [look] at h
    by_cases h0 : a = 0
    · rw [if_pos h0] at h; cases h; subst h0
      simp only [setT, if_true, flatW, List.length_set]
      rw [show 0 + 1 + i = i + 1 by omega, List.set_cons_succ, List.set_append_left _ _ hi]
    · rw [if_neg h0] at h
      by_cases h1 : a ≤ p.2.length
      · rw [if_pos h1] at h; cases h
      · rw [if_neg h1] at h
        obtain ⟨b, rfl⟩ : ∃ b, a = p.2.length + 1 + b := ⟨a - (p.2.length + 1), by omega⟩
        rw [show p.2.length + 1 + b - (p.2.length + 1) = b by omega] at h
        simp only [setT]
        rw [if_neg h0, if_neg h1, show p.2.length + 1 + b - (p.2.length + 1) = b by omega]
        simp only [flatW]
        rw [ih h, show p.2.length + 1 + b + 1 + i = (p.2.length + (b + 1 + i)) + 1 by omega, List.set_cons_succ, List.set_append_right _ _ (by omega), show p.2.length + (b + 1 + i) - p.2.length = b + 1 + i by omega]
theorem setT_H (l : List Thing) (a i : Nat) (x : Int) : flatH (setT l a i x) = flatH l := by
  induction l generalizing a with
  | nil => rfl
  | cons p r ih => simp only [setT]; split <;> (try split) <;> simp [flatH, ih]
theorem setT_tot (l : List Thing) (a i : Nat) (x : Int) : tot (setT l a i x) = tot l := by
  rw [← flatH_len, setT_H, flatH_len]
theorem look_setT (l : List Thing) (a i b : Nat) (x : Int) : look (setT l a i x) b = if b = a then (look l a).map (fun o => (o.1, o.2.set i x)) else look l b := by
  induction l generalizing a b with
  | nil => simp [setT, look]
  | cons p r ih =>
    simp only [setT]
    by_cases h0 : a = 0
    · subst h0
      simp only [if_true, look, List.length_set]
      by_cases hb : b = 0
      · subst hb; simp
      · simp [hb]
    · rw [if_neg h0]
      by_cases h1 : a ≤ p.2.length
      · rw [if_pos h1]
        by_cases hb : b = a
        · subst hb; simp [look, h0, h1]
        · rw [if_neg hb]
      · rw [if_neg h1]
        simp only [look]
        rw [if_neg h0, if_neg h1, ih]
        by_cases hb : b = a
        · subst hb; simp [h0, h1]
        · rw [if_neg hb]
          by_cases hb0 : b = 0
          · simp [hb0]
          · rw [if_neg hb0, if_neg hb0]
            by_cases hb1 : b ≤ p.2.length
            · rw [if_pos hb1, if_pos hb1]
            · rw [if_neg hb1, if_neg hb1, if_neg (by omega)]
theorem look_snoc (l : List Thing) (o : Thing) (a : Nat) : look (l ++ [o]) a = if a < tot l then look l a else if a = tot l then some o else none := by
  induction l generalizing a with
  | nil =>
    rw [show tot [] = 0 from rfl, if_neg (Nat.not_lt_zero _)]
    simp only [List.nil_append, look]
    by_cases h : a = 0 <;> simp [h]
  | cons p r ih =>
    rw [tot_cons]
    simp only [List.cons_append, look]
    by_cases h0 : a = 0
    · subst h0; simp
    · rw [if_neg h0, if_neg h0]
      by_cases h1 : a ≤ p.2.length
      · rw [if_pos h1, if_pos h1, if_pos (by omega)]
      · rw [if_neg h1, if_neg h1, ih]
        by_cases h2 : a < p.2.length + 1 + tot r
        · rw [if_pos h2, if_pos (by omega)]
        · rw [if_neg h2, if_neg (by omega)]
          by_cases h3 : a = p.2.length + 1 + tot r
          · rw [if_pos h3, if_pos (by omega)]
          · rw [if_neg h3, if_neg (by omega)]
/-- every thing's kind and how many words it has are what may be -/
def okT (l : List Thing) : Prop := ∀ o, o ∈ l → 1 ≤ o.1 ∧ o.1 ≤ 9 ∧ o.2.length ≤ 255
theorem look_mem {l : List Thing} {a : Nat} {o : Thing} (h : look l a = some o) : o ∈ l := by
  induction l generalizing a with
  | nil => simp [look] at h
  | cons p r ih =>
    simp only [look] at h
    split at h
    · cases h; simp
    · split at h
      · cases h
      · exact List.mem_cons_of_mem _ (ih h)
theorem okT_setT {l : List Thing} (h : okT l) (a i : Nat) (x : Int) : okT (setT l a i x) := by
  induction l generalizing a with
  | nil => exact h
  | cons p r ih =>
    have hp := h p (by simp)
    have hr : okT r := fun o ho => h o (List.mem_cons_of_mem _ ho)
    simp only [setT]
    split
    · intro o ho
      rcases List.mem_cons.1 ho with rfl | ho
      · simpa using hp
      · exact hr o ho
    · split
      · exact h
      · intro o ho
        rcases List.mem_cons.1 ho with rfl | ho
        · exact hp
        · exact ih hr _ o ho
end Go.Proofs.Ytlaipmakgicnfaa.Ar

/- Plain laws of names' letters (lex); each states its conditions. -/
import Derived.Test.YtkgfnkilanpaoaaDoorLexP3
namespace Go.Proofs.YtkgfnkilanpaoaaDoor.LexP
open Go.Lib
/-- the letters of names that are tried -/
def lettersL : List UInt8 := [97, 98, 99, 120, 121, 122, 65, 66, 90, 48, 49, 50, 51, 52, 53, 54, 55, 56, 57, 33, 36, 37, 38, 42, 43, 45, 47, 58, 60, 61, 62, 63, 94, 95, 126]
def nameB (c : Int) : UInt8 := lettersL.getD (c % 35).toNat 97
def okAt (many : Bool) (j : Nat) (c : UInt8) : Bool := isDigit c || (j == 0 && c == 45 && many)
def numK (many : Bool) (L : List UInt8) (k : Nat) : Bool := (List.range k).all fun j => okAt many j (L.getD j 0)
theorem numK_succ (many : Bool) (L : List UInt8) (k : Nat) : numK many L (k + 1) = (numK many L k && okAt many k (L.getD k 0)) := by
  unfold numK; rw [List.range_succ, List.all_append]; simp
theorem letters_ok : lettersL.all isLetter = true := by decide
theorem nameB_letter (c : Int) : isLetter (nameB c) = true := by
  have h : nameB c ∈ lettersL := by
    unfold nameB
    rw [List.getD_eq_getElem?_getD]
    cases hx : lettersL[(c % 35).toNat]? with
    | none => show (97 : UInt8) ∈ lettersL; decide
    | some v => exact List.mem_of_getElem? hx
  exact List.all_eq_true.1 letters_ok _ h
theorem letter_all : ∀ n < 256, isLetter (UInt8.ofNat n) = true → isBlank (UInt8.ofNat n) = false ∧ (UInt8.ofNat n == 59) = false ∧ (UInt8.ofNat n == 40) = false ∧ (UInt8.ofNat n == 41) = false ∧ (UInt8.ofNat n == 39) = false ∧ (UInt8.ofNat n == 35) = false := by decide +kernel
theorem letter_not (c : UInt8) (h : isLetter c = true) : isBlank c = false ∧ (c == 59) = false ∧ (c == 40) = false ∧ (c == 41) = false ∧ (c == 39) = false ∧ (c == 35) = false := by
  have := letter_all c.toNat c.toNat_lt
  rw [UInt8.ofNat_toNat] at this
  exact this h
theorem tw_all (p : UInt8 → Bool) : ∀ l : List UInt8, (∀ x ∈ l, p x = true) → l.takeWhile p = l
  | [], _ => rfl
  | c :: r, h => by rw [List.takeWhile_cons, if_pos (h c (by simp)), tw_all p r (fun x hx => h x (by simp [hx]))]
theorem lex_letters (c : UInt8) (r : List UInt8) (h : ∀ x ∈ c :: r, isLetter x = true) : lexL 0 (c :: r) = match tokP (c :: r) with
    | .error e => .error (0, e)
    | .ok t => .ok [⟨t.1, 0, t.2.1, t.2.2⟩] := by
  obtain ⟨h1, h2, h3, h4, h5, h6⟩ := letter_not c (h c (by simp))
  have hw : word (c :: r) = c :: r := by
    exact tw_all isLetter _ h
  rw [lexL_tok 0 c r (pass_fix c r h1 h2), firstP_eq, if_neg (by simp [h3]), if_neg (by simp [h4]), if_neg (by simp [h5]), if_neg (by simp [h6]), hw, if_neg (by simp)]
  cases ht : tokP (c :: r) with
  | error e => rfl
  | ok t =>
    simp only
    rw [List.drop_length, lexL_nil]
    rfl
theorem range_all (f : UInt8 → Bool) : ∀ r : List UInt8, ((List.range r.length).all fun j => f (r.getD j 0)) = r.all f
  | [] => rfl
  | c :: r => by
    rw [List.length_cons, List.range_succ_eq_map, List.all_cons, List.all_map, List.all_cons, ← range_all f r]
    rfl
theorem numP_cons2 (c : UInt8) (r : List UInt8) : numP (c :: r) = if c == 45 then r.all isDigit && !r.isEmpty else (c :: r).all isDigit := by
  unfold numP; rw [trimPre]; split
  · rfl
  · simp
theorem numK_numP (many : Bool) (c : UInt8) (r : List UInt8) (hm : many = decide (1 < (c :: r).length)) : numK many (c :: r) (c :: r).length = numP (c :: r) := by
  unfold numK
  rw [List.length_cons, List.range_succ_eq_map, List.all_cons, List.all_map]
  have e : (List.range r.length).all ((fun j => okAt many j ((c :: r).getD j 0)) ∘ Nat.succ) = r.all isDigit := by
    rw [← range_all isDigit r]
    congr 1
    funext j
    simp [okAt]
  rw [e, numP_cons2]
  by_cases hc : c == 45
  · have hc2 : c = 45 := by simpa using hc
    subst hc2
    rw [if_pos hc, hm]
    have : okAt (decide (1 < (45 :: r : List UInt8).length)) 0 ((45 :: r).getD 0 0) = !r.isEmpty := by
      cases r <;> simp [okAt, isDigit]
    rw [this, Bool.and_comm]
  · rw [if_neg hc, List.all_cons]
    congr 1
    show (isDigit c || (0 == 0 && c == 45 && many)) = isDigit c
    rw [show (c == 45) = false from by simpa using hc]; simp
theorem val_small (c : UInt8) (r : List UInt8) (hn : numP (c :: r) = true) (hl : (c :: r).length ≤ 12) : ¬ (13 < (c :: r).length ∨ valP (c :: r) ≤ -1099511627776 ∨ 1099511627776 ≤ valP (c :: r)) := by
  have key : ∀ l : List UInt8, l.all isDigit = true → l.length ≤ 12 → magP l < 1000000000000 := by
    intro l h hl
    have h1 : 10 ^ l.length ≤ 10 ^ 12 := Nat.pow_le_pow_right (by omega) hl
    have := (parse_dig l 0 h (by omega)).2
    unfold magP
    omega
  rw [numP_cons2] at hn
  simp only [List.length_cons] at hl
  by_cases hc : c == 45
  · have hc2 : c = 45 := by simpa using hc
    subst hc2
    rw [if_pos hc, Bool.and_eq_true] at hn
    have := key r hn.1 (by omega)
    show ¬ (13 < (45 :: r : List UInt8).length ∨ -(magP r : Int) ≤ -1099511627776 ∨ 1099511627776 ≤ -(magP r : Int))
    simp only [List.length_cons]
    omega
  · rw [if_neg hc] at hn
    have := key (c :: r) hn (by rw [List.length_cons]; omega)
    have hv : valP (c :: r) = (magP (c :: r) : Int) := by
      unfold valP; split
      · rename_i h; injection h with h1 _; subst h1; exact absurd rfl hc
      · rfl
    rw [hv, List.length_cons]
    omega
/-- what a name's token may be -/
theorem names_law (c : UInt8) (r : List UInt8) (h : ∀ x ∈ c :: r, isLetter x = true) :
    (numP (c :: r) = true ∧ ((∃ v, lexL 0 (c :: r) = .ok [⟨4, 0, v, []⟩]) ∨ (12 < (c :: r).length ∧ lexL 0 (c :: r) = .error (0, 51)))) ∨
    (numP (c :: r) = false ∧ 32 < (c :: r).length ∧ lexL 0 (c :: r) = .error (0, 3)) ∨
    (numP (c :: r) = false ∧ (c :: r).length ≤ 32 ∧ lexL 0 (c :: r) = .ok [⟨6, 0, 0, c :: r⟩]) := by
  rw [lex_letters c r h]
  unfold tokP
  by_cases hn : numP (c :: r) = true
  · refine .inl ⟨hn, ?_⟩
    rw [if_pos hn]
    by_cases hb : 13 < (c :: r).length ∨ valP (c :: r) ≤ -1099511627776 ∨ 1099511627776 ≤ valP (c :: r)
    · rw [if_pos hb]
      refine .inr ⟨?_, rfl⟩
      by_cases h12 : 12 < (c :: r).length
      · exact h12
      · exact absurd hb (val_small c r hn (by omega))
    · rw [if_neg hb]; exact .inl ⟨_, rfl⟩
  · rw [if_neg hn]
    have hn2 : numP (c :: r) = false := by simpa using hn
    by_cases h32 : 32 < (c :: r).length
    · rw [if_pos h32]; exact .inr (.inl ⟨hn2, h32, rfl⟩)
    · rw [if_neg h32]; exact .inr (.inr ⟨hn2, by omega, rfl⟩)
end Go.Proofs.YtkgfnkilanpaoaaDoor.LexP

/- Plain laws of layer 5 (lex); each states its conditions. -/
import Derived.Test.YthfbkhjcnfjmmaaDoorLexP
namespace Go.Proofs.YthfbkhjcnfjmmaaDoor.LexP
open Go.Lib
theorem firstP_eq (c : UInt8) (r : List UInt8) : firstP (c :: r) = if c == 40 then .ok ((1, 0, []), 1) else if c == 41 then .ok ((2, 0, []), 1) else if c == 39 then .ok ((3, 0, []), 1)
    else if c == 35 then (if word r = [116] then .ok ((5, 1, []), 2) else if word r = [102] then .ok ((5, 0, []), 2) else .error 50)
    else if word (c :: r) = [] then .error 50 else match tokP (word (c :: r)) with
      | .error e => .error e
      | .ok t => .ok (t, (word (c :: r)).length) := rfl
theorem word_le (l : List UInt8) : (word l).length ≤ l.length := (List.takeWhile_prefix _).length_le
theorem firstP_pos {c : UInt8} {r : List UInt8} {t : Int × Int × List UInt8} {n : Nat} (h : firstP (c :: r) = .ok (t, n)) : 1 ≤ n ∧ n ≤ r.length + 1 := by
  rw [firstP_eq] at h
  have hw := word_le r
  have hl := word_le (c :: r)
  simp only [List.length_cons] at hl
  have two : ∀ b : UInt8, word r = [b] → 1 ≤ r.length := fun b hb => by rw [hb] at hw; simpa using hw
  split at h
  · injection h with h; injection h with _ h; omega
  split at h
  · injection h with h; injection h with _ h; omega
  split at h
  · injection h with h; injection h with _ h; omega
  split at h
  · split at h
    · rename_i hb; have := two _ hb; injection h with h; injection h with _ h; omega
    · split at h
      · rename_i hb; have := two _ hb; injection h with h; injection h with _ h; omega
      · cases h
  split at h
  · cases h
  · rename_i hne
    have : 0 < (word (c :: r)).length := List.length_pos_iff.2 hne
    split at h
    · cases h
    · injection h with h; injection h with _ h; omega
/-- what follows a token -/
def lexStep (rec : Nat → List UInt8 → Except (Nat × Int) (List Tok)) (i : Nat) (l : List UInt8) : Except (Nat × Int) (List Tok) := match pass false l with
  | [] => .ok []
  | c :: r => match firstP (c :: r) with
    | .error e => .error (i + (l.length - (r.length + 1)), e)
    | .ok (t, n) => match rec (i + (l.length - (r.length + 1)) + n) ((c :: r).drop n) with
      | .error e => .error e
      | .ok ts => .ok (⟨t.1, ((i + (l.length - (r.length + 1)) : Nat) : Int), t.2.1, t.2.2⟩ :: ts)
theorem lexN_succ (k i : Nat) (l : List UInt8) : lexN (k + 1) i l = lexStep (lexN k) i l := rfl
theorem lexN_fuel : ∀ (f g i : Nat) (l : List UInt8), l.length < f → l.length < g → lexN f i l = lexN g i l
  | 0, _, _, _, h, _ => by omega
  | _ + 1, 0, _, _, _, h => by omega
  | f + 1, g + 1, i, l, hf, hg => by
    rw [lexN_succ, lexN_succ]
    unfold lexStep
    cases hp : pass false l with
    | nil => rfl
    | cons c r =>
      have hle := pass_le false l
      rw [hp] at hle
      simp only [List.length_cons] at hle
      cases h1 : firstP (c :: r) with
      | error e => simp only [h1]
      | ok x =>
        obtain ⟨t, n⟩ := x
        have hn := firstP_pos h1
        simp only [h1]
        rw [lexN_fuel f g _ ((c :: r).drop n) (by simp only [List.length_drop, List.length_cons]; omega) (by simp only [List.length_drop, List.length_cons]; omega)]
theorem lexL_eq (i : Nat) (l : List UInt8) : lexL i l = lexStep lexL i l := by
  unfold lexL
  rw [lexN_succ]
  unfold lexStep
  cases hp : pass false l with
  | nil => rfl
  | cons c r =>
    have hle := pass_le false l
    rw [hp] at hle
    simp only [List.length_cons] at hle
    cases h1 : firstP (c :: r) with
    | error e => simp only [h1]
    | ok x =>
      obtain ⟨t, n⟩ := x
      have hn := firstP_pos h1
      simp only [h1]
      rw [lexN_fuel l.length (((c :: r).drop n).length + 1) _ ((c :: r).drop n) (by simp only [List.length_drop, List.length_cons]; omega) (by omega)]
theorem pass_pass (l : List UInt8) : pass false (pass false l) = pass false l := by
  cases hp : pass false l with
  | nil => exact pass_nil false
  | cons c r => have := pass_head false l c r hp; exact pass_fix c r this.1 this.2
/-- what is passed over may be passed ahead -/
theorem lexL_pass (i : Nat) (l : List UInt8) : lexL i l = lexL (i + (l.length - (pass false l).length)) (pass false l) := by
  rw [lexL_eq, lexL_eq (i + _) (pass false l)]
  unfold lexStep
  rw [pass_pass]
  cases hp : pass false l with
  | nil => rfl
  | cons c r => simp only [List.length_cons, Nat.sub_self, Nat.add_zero]
/-- at a token -/
theorem lexL_tok (i : Nat) (c : UInt8) (r : List UInt8) (hp : pass false (c :: r) = c :: r) : lexL i (c :: r) = match firstP (c :: r) with
    | .error e => .error (i, e)
    | .ok (t, n) => match lexL (i + n) ((c :: r).drop n) with
      | .error e => .error e
      | .ok ts => .ok (⟨t.1, (i : Int), t.2.1, t.2.2⟩ :: ts) := by
  rw [lexL_eq]
  unfold lexStep
  rw [hp]
  simp only [List.length_cons, Nat.sub_self, Nat.add_zero]
theorem lexL_nil (i : Nat) : lexL i [] = .ok [] := rfl
/-- tokens ahead of others -/
def comb (acc : List Tok) : Except (Nat × Int) (List Tok) → Except (Nat × Int) (List Tok)
  | .error e => .error e
  | .ok ts => .ok (acc ++ ts)
theorem tokP_err {l : List UInt8} {e : Int} (h : tokP l = .error e) : e ≠ 0 := by
  unfold tokP at h
  split at h
  · split at h
    · injection h with h; omega
    · cases h
  · split at h
    · injection h with h; omega
    · cases h
theorem firstP_err {c : UInt8} {r : List UInt8} {e : Int} (h : firstP (c :: r) = .error e) : e ≠ 0 := by
  rw [firstP_eq] at h
  split at h
  · cases h
  split at h
  · cases h
  split at h
  · cases h
  split at h
  · split at h
    · cases h
    · split at h
      · cases h
      · injection h with h; omega
  split at h
  · injection h with h; omega
  · split at h
    · rename_i he; injection h with h; rw [← h]; exact tokP_err he
    · cases h
end Go.Proofs.YthfbkhjcnfjmmaaDoor.LexP

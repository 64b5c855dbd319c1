/- Layer 5 (lex) in plain lists: tokens of a text; no conditions. -/
import Derived.Lib.AtoiAll
import Derived.Lib.SlTrimSet
import Derived.Lib.IndexMore
import Derived.Lib.IndexBytes
import Derived.Lib.IndexLaws
import Derived.Lib.ItoaLen
namespace Go.Proofs.YtomhkemdafiphaaGreatDoor.LexP
open Go.Lib
/-- may a byte stand in a name? -/
def isLetter (c : UInt8) : Bool := (97 ≤ c && c ≤ 122) || (65 ≤ c && c ≤ 90) || (48 ≤ c && c ≤ 57) || [33, 36, 37, 38, 42, 43, 45, 47, 58, 60, 61, 62, 63, 94, 95, 126].contains c
def isBlank (c : UInt8) : Bool := c == 32 || c == 9 || c == 10
def isDigit (c : UInt8) : Bool := 48 ≤ c && c ≤ 57
/-- the word that a text begins with -/
def word (l : List UInt8) : List UInt8 := l.takeWhile isLetter
/-- what stands behind blanks and remarks; within a remark: behind its end -/
def pass : Bool → List UInt8 → List UInt8
  | _, [] => []
  | true, c :: r => if c == 10 then pass false r else pass true r
  | false, c :: r => if isBlank c then pass false r else if c == 59 then pass true r else c :: r
/-- is a word a number? -/
def numP (l : List UInt8) : Bool := (trimPrefix l [45]).all isDigit && !(trimPrefix l [45]).isEmpty
def magP (l : List UInt8) : Nat := l.foldl (fun a c => a * 10 + (c.toNat - 48)) 0
/-- the number of such a word -/
def valP (l : List UInt8) : Int := match l with
  | 45 :: r => -(magP r : Int)
  | l => magP l
/-- a token's kind, number and name; or what is wrong -/
def tokP (l : List UInt8) : Except Int (Int × Int × List UInt8) :=
  if numP l then (if 13 < l.length ∨ valP l ≤ -1099511627776 ∨ 1099511627776 ≤ valP l then .error 51 else .ok (4, valP l, []))
  else if 32 < l.length then .error 3 else .ok (6, 0, l)
/-- the token that a text begins with, and how many bytes it has -/
def firstP (l : List UInt8) : Except Int ((Int × Int × List UInt8) × Nat) := match l with
  | [] => .error 50
  | c :: r => if c == 40 then .ok ((1, 0, []), 1) else if c == 41 then .ok ((2, 0, []), 1) else if c == 39 then .ok ((3, 0, []), 1)
    else if c == 35 then (if word r = [116] then .ok ((5, 1, []), 2) else if word r = [102] then .ok ((5, 0, []), 2) else .error 50)
    else if word l = [] then .error 50 else match tokP (word l) with
      | .error e => .error e
      | .ok t => .ok (t, (word l).length)
structure Tok where
  kind : Int
  pos : Int
  n : Int
  s : List UInt8
  deriving DecidableEq
/-- the tokens of a text from a place on: or where it is wrong, and how -/
def lexN : Nat → Nat → List UInt8 → Except (Nat × Int) (List Tok)
  | 0, _, _ => .ok []
  | k + 1, i, l => match pass false l with
    | [] => .ok []
    | c :: r => match firstP (c :: r) with
      | .error e => .error (i + (l.length - (r.length + 1)), e)
      | .ok (t, n) => match lexN k (i + (l.length - (r.length + 1)) + n) ((c :: r).drop n) with
        | .error e => .error e
        | .ok ts => .ok (⟨t.1, ((i + (l.length - (r.length + 1)) : Nat) : Int), t.2.1, t.2.2⟩ :: ts)
def lexL (i : Nat) (l : List UInt8) : Except (Nat × Int) (List Tok) := lexN (l.length + 1) i l
/-- Lex -/
def lexF (l : List UInt8) : Except (Nat × Int) (List Tok) := if 4000 < l.length then .error (0, 3) else lexL 0 l

theorem pass_t (c : UInt8) (r : List UInt8) : pass true (c :: r) = if c == 10 then pass false r else pass true r := by conv => lhs; unfold pass
theorem pass_f (c : UInt8) (r : List UInt8) : pass false (c :: r) = if isBlank c then pass false r else if c == 59 then pass true r else c :: r := by conv => lhs; unfold pass
theorem pass_nil (b : Bool) : pass b [] = [] := by unfold pass; rfl
theorem pass_le : ∀ (b : Bool) (l : List UInt8), (pass b l).length ≤ l.length
  | _, [] => by simp [pass]
  | true, c :: r => by
    unfold pass; split
    · exact Nat.le_trans (pass_le false r) (by simp)
    · exact Nat.le_trans (pass_le true r) (by simp)
  | false, c :: r => by
    unfold pass; split
    · exact Nat.le_trans (pass_le false r) (by simp)
    · split
      · exact Nat.le_trans (pass_le true r) (by simp)
      · exact Nat.le_refl _
theorem pass_suffix : ∀ (b : Bool) (l : List UInt8), pass b l = l.drop (l.length - (pass b l).length)
  | _, [] => by simp [pass]
  | true, c :: r => by
    have h1 := pass_le false r; have h2 := pass_le true r
    unfold pass; split
    · rw [List.length_cons, show r.length + 1 - (pass false r).length = (r.length - (pass false r).length) + 1 from by omega, List.drop_succ_cons]; exact pass_suffix false r
    · rw [List.length_cons, show r.length + 1 - (pass true r).length = (r.length - (pass true r).length) + 1 from by omega, List.drop_succ_cons]; exact pass_suffix true r
  | false, c :: r => by
    have h1 := pass_le false r; have h2 := pass_le true r
    unfold pass; split
    · rw [List.length_cons, show r.length + 1 - (pass false r).length = (r.length - (pass false r).length) + 1 from by omega, List.drop_succ_cons]; exact pass_suffix false r
    · split
      · rw [List.length_cons, show r.length + 1 - (pass true r).length = (r.length - (pass true r).length) + 1 from by omega, List.drop_succ_cons]; exact pass_suffix true r
      · simp
theorem pass_head : ∀ (b : Bool) (l : List UInt8) (c : UInt8) (r : List UInt8), pass b l = c :: r → isBlank c = false ∧ (c == 59) = false
  | _, [], c, r, h => by simp [pass] at h
  | true, c :: r, c', r', h => by
    unfold pass at h; split at h
    · exact pass_head false r c' r' h
    · exact pass_head true r c' r' h
  | false, c :: r, c', r', h => by
    unfold pass at h; split at h
    · exact pass_head false r c' r' h
    · split at h
      · exact pass_head true r c' r' h
      · injection h with h1 h2; subst h1; constructor <;> simp_all
theorem pass_fix (c : UInt8) (r : List UInt8) (h1 : isBlank c = false) (h2 : (c == 59) = false) : pass false (c :: r) = c :: r := by
  unfold pass; rw [if_neg (by simp [h1]), if_neg (by simp [h2])]
/-- blanks ahead are passed over -/
def trimB (l : List UInt8) : List UInt8 := trimLeftS l [32, 9, 10]
theorem trimB_eq (l : List UInt8) : trimB l = l.dropWhile isBlank := by
  unfold trimB trimLeftS
  congr 1; funext c
  simp [isBlank, List.contains, List.elem]
  cases h1 : c == 32 <;> cases h2 : c == 9 <;> cases h3 : c == 10 <;> simp_all
theorem pass_trim (l : List UInt8) : pass false (trimB l) = pass false l := by
  rw [trimB_eq]
  induction l with
  | nil => rfl
  | cons c r ih =>
    rw [List.dropWhile_cons]
    split
    · rename_i h; rw [ih]; conv => rhs; unfold pass; rw [if_pos h]
    · rfl
/-- what stands behind the first newline -/
def nlP (l : List UInt8) : List UInt8 := (cut l [10]).2.1
theorem pass_nl (l : List UInt8) : pass true l = pass false (nlP l) := by
  unfold nlP cut
  rw [index_one]
  induction l with
  | nil => rfl
  | cons c r ih =>
    rw [pass_t]
    by_cases hc : c == 10
    · have hi : indexByte (c :: r) 10 = 0 := by unfold indexByte; rw [if_pos hc]
      rw [if_pos hc, hi]; simp
    · rw [if_neg hc, ih]
      have hg := indexByte_ge r 10
      by_cases h : indexByte r 10 = -1
      · have hi : indexByte (c :: r) 10 = -1 := by unfold indexByte; rw [if_neg hc, h]; rfl
        rw [hi, h]; rfl
      · have hi : indexByte (c :: r) 10 = indexByte r 10 + 1 := by conv => lhs; unfold indexByte
                                                                   rw [if_neg hc, if_neg (by simpa using h)]
        rw [hi, if_pos (by omega), if_pos (by omega)]
        simp only [List.length_singleton]
        congr 1
        obtain ⟨k, hk⟩ : ∃ k : Nat, indexByte r 10 = k := ⟨(indexByte r 10).toNat, by omega⟩
        rw [hk, show ((k : Int) + 1).toNat = k + 1 from by omega, show ((k : Int)).toNat = k from by omega, List.drop_succ_cons]
theorem nlP_le (l : List UInt8) : (nlP l).length ≤ l.length := by
  unfold nlP cut; split
  · simp
  · simp
theorem trimB_le (l : List UInt8) : (trimB l).length ≤ l.length := by
  rw [trimB_eq]
  exact (List.dropWhile_suffix isBlank).length_le
theorem trimB_head (l : List UInt8) (c : UInt8) (r : List UInt8) (h : trimB l = c :: r) : isBlank c = false := by
  rw [trimB_eq] at h
  have := List.head?_dropWhile_not isBlank l
  rw [h] at this
  simpa using this
/-- where a row stops being so -/
theorem tw_stop (p : UInt8 → Bool) : ∀ (l : List UInt8) (k : Nat), k ≤ l.length → (∀ i c, i < k → l[i]? = some c → p c = true) → (∀ c, l[k]? = some c → p c = false) → (l.takeWhile p).length = k
  | [], k, h, _, _ => by simp at h; simp [h]
  | x :: l, 0, _, _, h2 => by rw [List.takeWhile_cons, if_neg (by simpa using h2 x (by simp))]; rfl
  | x :: l, k + 1, h, h1, h2 => by
    rw [List.takeWhile_cons, if_pos (by simpa using h1 0 x (by omega) (by simp)), List.length_cons, tw_stop p l k (by simpa using h) (fun i c hi hc => h1 (i + 1) c (by omega) (by simpa using hc)) (fun c hc => h2 c (by simpa using hc))]
theorem tw_take (p : UInt8 → Bool) (l : List UInt8) : l.take (l.takeWhile p).length = l.takeWhile p := by
  induction l with
  | nil => rfl
  | cons x l ih =>
    rw [List.takeWhile_cons]; split
    · simp [ih]
    · simp
theorem trimPre (c : UInt8) (r : List UInt8) : trimPrefix (c :: r) [45] = if c == 45 then r else c :: r := by
  unfold trimPrefix hasPrefix
  by_cases h : c == 45
  · have : c = 45 := by simpa using h
    subst this; simp
  · have : ¬ (45 : UInt8) = c := fun e => h (by simp [e])
    simp [h, this]
theorem parse_dig : ∀ (l : List UInt8) (a : Nat), l.all isDigit = true → a * 10 ^ l.length + 10 ^ l.length ≤ 10 ^ 13 → parseUint10 a l = .ok (l.foldl (fun a c => a * 10 + (c.toNat - 48)) a) ∧ l.foldl (fun a c => a * 10 + (c.toNat - 48)) a < a * 10 ^ l.length + 10 ^ l.length
  | [], a, _, _ => by simp [parseUint10]
  | c :: r, a, h, hb => by
    simp only [List.all_cons, Bool.and_eq_true] at h
    have hd : 48 ≤ c.toNat ∧ c.toNat ≤ 57 := by
      have := h.1; simp only [isDigit, Bool.and_eq_true, decide_eq_true_eq, UInt8.le_iff_toNat_le] at this; simpa using this
    have hp : 1 ≤ 10 ^ r.length := Nat.one_le_pow _ _ (by omega)
    simp only [List.length_cons, Nat.pow_succ] at hb
    have e1 : a * (10 ^ r.length * 10) = a * 10 * 10 ^ r.length := by rw [Nat.mul_comm (10 ^ r.length), Nat.mul_assoc]
    have e2 : (a * 10 + (c.toNat - 48)) * 10 ^ r.length ≤ a * 10 * 10 ^ r.length + 9 * 10 ^ r.length := by
      rw [← Nat.add_mul]; exact Nat.mul_le_mul_right _ (by omega)
    have hle : a * 10 ≤ a * 10 * 10 ^ r.length := Nat.le_mul_of_pos_right _ (by omega)
    have ih := parse_dig r (a * 10 + (c.toNat - 48)) h.2 (by omega)
    unfold parseUint10
    rw [if_pos hd, if_neg (by omega), if_neg (by omega), List.foldl_cons]
    refine ⟨ih.1, ?_⟩
    have := ih.2
    simp only [List.length_cons, Nat.pow_succ]
    omega
theorem parse_nosyn : ∀ (l : List UInt8) (a : Nat), l.all isDigit = true → parseUint10 a l ≠ .syntax
  | [], a, _ => by simp [parseUint10]
  | c :: r, a, h => by
    simp only [List.all_cons, Bool.and_eq_true] at h
    have hd : 48 ≤ c.toNat ∧ c.toNat ≤ 57 := by
      have := h.1; simp only [isDigit, Bool.and_eq_true, decide_eq_true_eq, UInt8.le_iff_toNat_le] at this; simpa using this
    unfold parseUint10
    rw [if_pos hd]
    split
    · simp
    · split
      · simp
      · exact parse_nosyn r _ h.2
end Go.Proofs.YtomhkemdafiphaaGreatDoor.LexP
/- Plain laws of layer 5 (lex); each states its conditions. -/
namespace Go.Proofs.YtomhkemdafiphaaGreatDoor.LexP
open Go.Lib
theorem firstP_eq (c : UInt8) (r : List UInt8) : firstP (c :: r) = if c == 40 then .ok ((1, 0, []), 1) else if c == 41 then .ok ((2, 0, []), 1) else if c == 39 then .ok ((3, 0, []), 1)
    else if c == 35 then (if word r = [116] then .ok ((5, 1, []), 2) else if word r = [102] then .ok ((5, 0, []), 2) else .error 50)
    else if word (c :: r) = [] then .error 50 else match tokP (word (c :: r)) with
      | .error e => .error e
      | .ok t => .ok (t, (word (c :: r)).length) := rfl
theorem word_le (l : List UInt8) : (word l).length ≤ l.length := (List.takeWhile_prefix _).length_le
theorem firstP_pos {c : UInt8} {r : List UInt8} {t : Int × Int × List UInt8} {n : Nat} (h : firstP (c :: r) = .ok (t, n)) : 1 ≤ n ∧ n ≤ r.length + 1 := by
  rw [firstP_eq] at h
  have hw := word_le r
  have hl := word_le (c :: r)
  simp only [List.length_cons] at hl
  have two : ∀ b : UInt8, word r = [b] → 1 ≤ r.length := fun b hb => by rw [hb] at hw; simpa using hw
  split at h
  · injection h with h; injection h with _ h; omega
  split at h
  · injection h with h; injection h with _ h; omega
  split at h
  · injection h with h; injection h with _ h; omega
  split at h
  · split at h
    · rename_i hb; have := two _ hb; injection h with h; injection h with _ h; omega
    · split at h
      · rename_i hb; have := two _ hb; injection h with h; injection h with _ h; omega
      · cases h
  split at h
  · cases h
  · rename_i hne
    have : 0 < (word (c :: r)).length := List.length_pos_iff.2 hne
    split at h
    · cases h
    · injection h with h; injection h with _ h; omega
/-- what follows a token -/
def lexStep (rec : Nat → List UInt8 → Except (Nat × Int) (List Tok)) (i : Nat) (l : List UInt8) : Except (Nat × Int) (List Tok) := match pass false l with
  | [] => .ok []
  | c :: r => match firstP (c :: r) with
    | .error e => .error (i + (l.length - (r.length + 1)), e)
    | .ok (t, n) => match rec (i + (l.length - (r.length + 1)) + n) ((c :: r).drop n) with
      | .error e => .error e
      | .ok ts => .ok (⟨t.1, ((i + (l.length - (r.length + 1)) : Nat) : Int), t.2.1, t.2.2⟩ :: ts)
theorem lexN_succ (k i : Nat) (l : List UInt8) : lexN (k + 1) i l = lexStep (lexN k) i l := rfl
theorem lexN_fuel : ∀ (f g i : Nat) (l : List UInt8), l.length < f → l.length < g → lexN f i l = lexN g i l
  | 0, _, _, _, h, _ => by omega
  | _ + 1, 0, _, _, _, h => by omega
  | f + 1, g + 1, i, l, hf, hg => by
    rw [lexN_succ, lexN_succ]
    unfold lexStep
    cases hp : pass false l with
    | nil => rfl
    | cons c r =>
      have hle := pass_le false l
      rw [hp] at hle
      simp only [List.length_cons] at hle
      cases h1 : firstP (c :: r) with
      | error e => simp only [h1]
      | ok x =>
        obtain ⟨t, n⟩ := x
        have hn := firstP_pos h1
        simp only [h1]
        rw [lexN_fuel f g _ ((c :: r).drop n) (by simp only [List.length_drop, List.length_cons]; omega) (by simp only [List.length_drop, List.length_cons]; omega)]
theorem lexL_eq (i : Nat) (l : List UInt8) : lexL i l = lexStep lexL i l := by
  unfold lexL
  rw [lexN_succ]
  unfold lexStep
  cases hp : pass false l with
  | nil => rfl
  | cons c r =>
    have hle := pass_le false l
    rw [hp] at hle
    simp only [List.length_cons] at hle
    cases h1 : firstP (c :: r) with
    | error e => simp only [h1]
    | ok x =>
      obtain ⟨t, n⟩ := x
      have hn := firstP_pos h1
      simp only [h1]
      rw [lexN_fuel l.length (((c :: r).drop n).length + 1) _ ((c :: r).drop n) (by simp only [List.length_drop, List.length_cons]; omega) (by omega)]
theorem pass_pass (l : List UInt8) : pass false (pass false l) = pass false l := by
  cases hp : pass false l with
  | nil => exact pass_nil false
  | cons c r => have := pass_head false l c r hp; exact pass_fix c r this.1 this.2
/-- what is passed over may be passed ahead -/
theorem lexL_pass (i : Nat) (l : List UInt8) : lexL i l = lexL (i + (l.length - (pass false l).length)) (pass false l) := by
  rw [lexL_eq, lexL_eq (i + _) (pass false l)]
  unfold lexStep
  rw [pass_pass]
  cases hp : pass false l with
  | nil => rfl
  | cons c r => simp only [List.length_cons, Nat.sub_self, Nat.add_zero]
/-- at a token -/
theorem lexL_tok (i : Nat) (c : UInt8) (r : List UInt8) (hp : pass false (c :: r) = c :: r) : lexL i (c :: r) = match firstP (c :: r) with
    | .error e => .error (i, e)
    | .ok (t, n) => match lexL (i + n) ((c :: r).drop n) with
      | .error e => .error e
      | .ok ts => .ok (⟨t.1, (i : Int), t.2.1, t.2.2⟩ :: ts) := by
  rw [lexL_eq]
  unfold lexStep
  rw [hp]
  simp only [List.length_cons, Nat.sub_self, Nat.add_zero]
theorem lexL_nil (i : Nat) : lexL i [] = .ok [] := rfl
/-- tokens ahead of others -/
def comb (acc : List Tok) : Except (Nat × Int) (List Tok) → Except (Nat × Int) (List Tok)
  | .error e => .error e
  | .ok ts => .ok (acc ++ ts)
theorem tokP_err {l : List UInt8} {e : Int} (h : tokP l = .error e) : e ≠ 0 := by
  unfold tokP at h
  split at h
  · split at h
    · injection h with h; omega
    · cases h
  · split at h
    · injection h with h; omega
    · cases h
theorem firstP_err {c : UInt8} {r : List UInt8} {e : Int} (h : firstP (c :: r) = .error e) : e ≠ 0 := by
  rw [firstP_eq] at h
  split at h
  · cases h
  split at h
  · cases h
  split at h
  · cases h
  split at h
  · split at h
    · cases h
    · split at h
      · cases h
      · injection h with h; omega
  split at h
  · injection h with h; omega
  · split at h
    · rename_i he; injection h with h; rw [← h]; exact tokP_err he
    · cases h
end Go.Proofs.YtomhkemdafiphaaGreatDoor.LexP
/- Plain laws of texts behind each other (lex); each states its conditions. -/
namespace Go.Proofs.YtomhkemdafiphaaGreatDoor.LexP
open Go.Lib
/-- tokens from a place on, in a remark or not -/
def fromM (b : Bool) (i : Nat) (l : List UInt8) : Except (Nat × Int) (List Tok) := lexL (i + (l.length - (pass b l).length)) (pass b l)
theorem fromM_f (i : Nat) (l : List UInt8) : fromM false i l = lexL i l := (lexL_pass i l).symm
theorem pass_app : ∀ (m : Bool) (a b : List UInt8), (pass m a ≠ [] → pass m (a ++ b) = pass m a ++ b) ∧ (pass m a = [] → ∃ m', pass m (a ++ b) = pass m' b)
  | m, [], b => ⟨fun h => absurd (pass_nil m) h, fun _ => ⟨m, rfl⟩⟩
  | true, c :: r, b => by
    rw [List.cons_append, pass_t, pass_t]
    split
    · exact pass_app false r b
    · exact pass_app true r b
  | false, c :: r, b => by
    rw [List.cons_append, pass_f, pass_f]
    split
    · exact pass_app false r b
    · split
      · exact pass_app true r b
      · exact ⟨fun _ => rfl, fun h => by cases h⟩
/-- a word ends ahead of b -/
def WEnds (b : List UInt8) : Prop := b = [] ∨ ∃ c r, b = c :: r ∧ isLetter c = false
theorem word_app (a b : List UInt8) (h : WEnds b) : word (a ++ b) = word a := by
  unfold word
  induction a with
  | nil =>
    rcases h with rfl | ⟨c, r, rfl, hc⟩
    · rfl
    · rw [List.nil_append, List.takeWhile_cons, if_neg (by simp [hc])]; rfl
  | cons x a ih => rw [List.cons_append, List.takeWhile_cons, List.takeWhile_cons, ih]
theorem firstP_app (c : UInt8) (r b : List UInt8) (h : WEnds b) : firstP (c :: (r ++ b)) = firstP (c :: r) := by
  rw [firstP_eq, firstP_eq, word_app r b h, show c :: (r ++ b) = (c :: r) ++ b from rfl, word_app (c :: r) b h]
/-- a text, and another behind it -/
theorem lex_app (b : List UInt8) (hb : WEnds b) : ∀ (n i : Nat) (a : List UInt8), a.length ≤ n → ∃ m, lexL i (a ++ b) = match lexL i a with
    | .error e => .error e
    | .ok ts => comb ts (fromM m (i + a.length) b)
  | n, i, a, hn => by
    obtain ⟨p1, p2⟩ := pass_app false a b
    cases hp : pass false a with
    | nil =>
      obtain ⟨m, hm⟩ := p2 hp
      refine ⟨m, ?_⟩
      have hl := pass_le m b
      rw [lexL_pass i a, hp, lexL_nil, lexL_pass i (a ++ b), hm, List.length_append, show i + (a.length + b.length - (pass m b).length) = i + a.length + (b.length - (pass m b).length) from by omega]
      show _ = comb [] _
      unfold fromM
      cases lexL (i + a.length + (b.length - (pass m b).length)) (pass m b) <;> rfl
    | cons c r =>
      have h1 := p1 (by rw [hp]; simp)
      have hl := pass_le false a
      have hh := pass_head false a c r hp
      rw [hp] at h1 hl
      simp only [List.length_cons] at hl
      have hi : i + ((a ++ b).length - (pass false (a ++ b)).length) = i + (a.length - (r.length + 1)) := by rw [h1]; simp; omega
      rw [lexL_pass i a, lexL_pass i (a ++ b), hi, hp, h1, List.length_cons]
      generalize hj : i + (a.length - (r.length + 1)) = j
      have hij : i + a.length = j + (r.length + 1) := by omega
      rw [show (c :: r) ++ b = c :: (r ++ b) from rfl, lexL_tok j c (r ++ b) (pass_fix c _ hh.1 hh.2), lexL_tok j c r (pass_fix c r hh.1 hh.2), firstP_app c r b hb]
      cases hf : firstP (c :: r) with
      | error e => exact ⟨true, rfl⟩
      | ok x =>
        obtain ⟨t, k⟩ := x
        have hk := firstP_pos hf
        match n, hn with
        | 0, hn => omega
        | n + 1, hn =>
          obtain ⟨m, hm⟩ := lex_app b hb n (j + k) ((c :: r).drop k) (by rw [List.length_drop, List.length_cons]; omega)
          refine ⟨m, ?_⟩
          have hd : (c :: (r ++ b)).drop k = (c :: r).drop k ++ b := by
            rw [show c :: (r ++ b) = (c :: r) ++ b from rfl, List.drop_append_of_le_length (by rw [List.length_cons]; omega)]
          simp only
          rw [hd, hm, hij, show j + k + ((c :: r).drop k).length = j + (r.length + 1) from by rw [List.length_drop, List.length_cons]; omega]
          cases lexL (j + k) ((c :: r).drop k) with
          | error e => rfl
          | ok ts => simp only; cases fromM m (j + (r.length + 1)) b <;> rfl
/-- where tokens stand -/
theorem lexL_pos : ∀ (n i : Nat) (l : List UInt8) (ts : List Tok), l.length ≤ n → lexL i l = .ok ts → ∀ t ∈ ts, (i : Int) ≤ t.pos ∧ t.pos < (i + l.length : Nat)
  | n, i, l, ts, hn, h, t, ht => by
    rw [lexL_pass] at h
    have hl := pass_le false l
    cases hp : pass false l with
    | nil => rw [hp, lexL_nil] at h; injection h with h; subst h; cases ht
    | cons c r =>
      have hh := pass_head false l c r hp
      rw [hp] at h hl
      simp only [List.length_cons] at hl
      rw [List.length_cons, lexL_tok _ c r (pass_fix c r hh.1 hh.2)] at h
      cases hf : firstP (c :: r) with
      | error e => rw [hf] at h; cases h
      | ok x =>
        obtain ⟨t0, k⟩ := x
        have hk := firstP_pos hf
        rw [hf] at h
        simp only at h
        match n, hn with
        | 0, hn => omega
        | n + 1, hn =>
          cases hr : lexL (i + (l.length - (r.length + 1)) + k) ((c :: r).drop k) with
          | error e => rw [hr] at h; cases h
          | ok ts' =>
            rw [hr] at h
            injection h with h
            subst h
            rcases List.mem_cons.1 ht with rfl | ht
            · exact ⟨by simp only; omega, by simp only; omega⟩
            · have := lexL_pos n _ _ ts' (by rw [List.length_drop, List.length_cons]; omega) hr t ht
              rw [List.length_drop, List.length_cons] at this
              omega
def shift (d : Nat) (t : Tok) : Tok := ⟨t.kind, t.pos + d, t.n, t.s⟩
/-- further behind -/
theorem lexL_shift (d : Nat) : ∀ (n i : Nat) (l : List UInt8), l.length ≤ n → lexL (i + d) l = match lexL i l with
    | .error (j, e) => .error (j + d, e)
    | .ok ts => .ok (ts.map (shift d))
  | n, i, l, hn => by
    rw [lexL_pass, lexL_pass i l]
    have hl := pass_le false l
    cases hp : pass false l with
    | nil => rw [lexL_nil, lexL_nil]; rfl
    | cons c r =>
      have hh := pass_head false l c r hp
      rw [hp] at hl
      simp only [List.length_cons] at hl
      rw [List.length_cons, show i + d + (l.length - (r.length + 1)) = i + (l.length - (r.length + 1)) + d from by omega]
      generalize i + (l.length - (r.length + 1)) = j
      rw [lexL_tok _ c r (pass_fix c r hh.1 hh.2), lexL_tok _ c r (pass_fix c r hh.1 hh.2)]
      cases hf : firstP (c :: r) with
      | error e => rfl
      | ok x =>
        obtain ⟨t0, k⟩ := x
        have hk := firstP_pos hf
        match n, hn with
        | 0, hn => omega
        | n + 1, hn =>
          have ih := lexL_shift d n (j + k) ((c :: r).drop k) (by rw [List.length_drop, List.length_cons]; omega)
          simp only
          rw [show j + d + k = j + k + d from by omega, ih]
          cases lexL (j + k) ((c :: r).drop k) with
          | error e => rfl
          | ok ts => simp [shift]
theorem lexL_err : ∀ (n i : Nat) (l : List UInt8) (j : Nat) (e : Int), l.length ≤ n → lexL i l = .error (j, e) → e ≠ 0
  | n, i, l, j, e, hn, h => by
    rw [lexL_pass] at h
    have hl := pass_le false l
    cases hp : pass false l with
    | nil => rw [hp, lexL_nil] at h; cases h
    | cons c r =>
      have hh := pass_head false l c r hp
      rw [hp] at h hl
      simp only [List.length_cons] at hl
      rw [List.length_cons, lexL_tok _ c r (pass_fix c r hh.1 hh.2)] at h
      cases hf : firstP (c :: r) with
      | error e2 =>
        rw [hf] at h
        injection h with h
        injection h with _ h
        subst h
        exact firstP_err hf
      | ok x =>
        obtain ⟨t0, k⟩ := x
        have hk := firstP_pos hf
        rw [hf] at h
        simp only at h
        match n, hn with
        | 0, hn => omega
        | n + 1, hn =>
          cases hr : lexL (i + (l.length - (r.length + 1)) + k) ((c :: r).drop k) with
          | error x =>
            obtain ⟨j2, e2⟩ := x
            rw [hr] at h
            injection h with h
            injection h with _ h
            subst h
            exact lexL_err n _ _ _ _ (by rw [List.length_drop, List.length_cons]; omega) hr
          | ok ts' => rw [hr] at h; cases h
theorem fromM_err {m : Bool} {i : Nat} {l : List UInt8} {j : Nat} {e : Int} (h : fromM m i l = .error (j, e)) : e ≠ 0 := lexL_err _ _ _ _ _ (Nat.le_refl _) h
theorem fromM_pos {m : Bool} {i : Nat} {l : List UInt8} {ts : List Tok} (h : fromM m i l = .ok ts) : ∀ t ∈ ts, (i : Int) ≤ t.pos := fun t ht => by
  have := (lexL_pos _ _ _ _ (Nat.le_refl _) h t ht).1
  omega
theorem lexF_eq {l : List UInt8} (h : l.length ≤ 4000) : lexF l = lexL 0 l := by unfold lexF; rw [if_neg (by omega)]
theorem lexL_errpos : ∀ (n i : Nat) (l : List UInt8) (j : Nat) (e : Int), l.length ≤ n → lexL i l = .error (j, e) → i ≤ j ∧ j < i + l.length
  | n, i, l, j, e, hn, h => by
    rw [lexL_pass] at h
    have hl := pass_le false l
    cases hp : pass false l with
    | nil => rw [hp, lexL_nil] at h; cases h
    | cons c r =>
      have hh := pass_head false l c r hp
      rw [hp] at h hl
      simp only [List.length_cons] at hl
      rw [List.length_cons, lexL_tok _ c r (pass_fix c r hh.1 hh.2)] at h
      cases hf : firstP (c :: r) with
      | error e2 =>
        rw [hf] at h
        injection h with h
        injection h with h _
        subst h
        omega
      | ok x =>
        obtain ⟨t0, k⟩ := x
        have hk := firstP_pos hf
        rw [hf] at h
        simp only at h
        match n, hn with
        | 0, hn => omega
        | n + 1, hn =>
          cases hr : lexL (i + (l.length - (r.length + 1)) + k) ((c :: r).drop k) with
          | error x =>
            obtain ⟨j2, e2⟩ := x
            rw [hr] at h
            injection h with h
            injection h with h _
            subst h
            have := lexL_errpos n _ _ _ _ (by rw [List.length_drop, List.length_cons]; omega) hr
            rw [List.length_drop, List.length_cons] at this
            omega
          | ok ts' => rw [hr] at h; cases h
theorem fromM_nl (m : Bool) (i : Nat) (r : List UInt8) : fromM m i (10 :: r) = lexL (i + 1) r := by
  have h : pass m (10 :: r) = pass false r := by cases m; rw [pass_f]; rfl; rw [pass_t]; rfl
  have hl := pass_le false r
  unfold fromM
  rw [h, lexL_pass (i + 1) r, List.length_cons, show i + (r.length + 1 - (pass false r).length) = i + 1 + (r.length - (pass false r).length) from by omega]
/-- two texts, with a newline between -/
theorem lex_joins (l1 l2 : List UInt8) : lexL 0 (l1 ++ 10 :: l2) = match lexL 0 l1 with
    | .error x => .error x
    | .ok a => match lexL 0 l2 with
      | .error (j, e) => .error (j + (l1.length + 1), e)
      | .ok b => .ok (a ++ b.map (shift (l1.length + 1))) := by
  obtain ⟨m, hm⟩ := lex_app (10 :: l2) (.inr ⟨10, l2, rfl, by decide⟩) l1.length 0 l1 (Nat.le_refl _)
  rw [hm]
  cases lexL 0 l1 with
  | error x => rfl
  | ok a =>
    simp only
    rw [fromM_nl, show 0 + l1.length + 1 = 0 + (l1.length + 1) from by omega, lexL_shift (l1.length + 1) l2.length 0 l2 (Nat.le_refl _)]
    cases lexL 0 l2 with
    | error x => rfl
    | ok b => rfl
/-- what is passed over, piece by piece -/
def piece (q : Nat) : List UInt8 := match q with | 0 => [32] | 1 => [9] | 2 => [10] | _ => [59, 32, 40, 32, 120, 10]
def rep : Nat → List UInt8 → List UInt8
  | 0, _ => []
  | n + 1, p => rep n p ++ p
theorem pass_piece (q : Nat) (l : List UInt8) : pass false (piece q ++ l) = pass false l := by
  unfold piece
  split <;> simp [pass_f, pass_t, isBlank]
theorem pass_rep (q : Nat) : ∀ (n : Nat) (l : List UInt8), pass false (rep n (piece q) ++ l) = pass false l
  | 0, l => rfl
  | n + 1, l => by rw [rep, List.append_assoc, pass_rep q n, pass_piece]
theorem rep_len (q : Nat) : ∀ n : Nat, (rep n (piece q)).length ≤ n * 6
  | 0 => by simp [rep]
  | n + 1 => by
    have := rep_len q n
    have h : (piece q).length ≤ 6 := by unfold piece; split <;> simp
    rw [rep, List.length_append]; omega
theorem passes_ahead (P l : List UInt8) (h : ∀ l, pass false (P ++ l) = pass false l) : lexL 0 (P ++ l) = match lexL 0 l with
    | .error (j, e) => .error (j + P.length, e)
    | .ok ts => .ok (ts.map (shift P.length)) := by
  have hl := pass_le false l
  have h1 := lexL_shift P.length l.length 0 l (Nat.le_refl _)
  rw [lexL_pass 0 (P ++ l), h, List.length_append, show 0 + (P.length + l.length - (pass false l).length) = 0 + P.length + (l.length - (pass false l).length) from by omega, ← lexL_pass (0 + P.length) l]
  exact h1
theorem passes_behind (P l : List UInt8) (h : ∀ l, pass false (P ++ l) = pass false l) : lexL 0 (l ++ 10 :: P) = lexL 0 l := by
  have hP : lexL 0 P = .ok [] := by
    have := h []
    rw [List.append_nil, pass_nil] at this
    rw [lexL_pass, this, lexL_nil]
  rw [lex_joins, hP]
  cases lexL 0 l with
  | error x => rfl
  | ok a => simp
theorem lexN_len : ∀ (k i : Nat) (l : List UInt8) (ts : List Tok), lexN k i l = .ok ts → ts.length ≤ k
  | 0, _, _, ts, h => by injection h with h; subst h; exact Nat.le_refl _
  | k + 1, i, l, ts, h => by
    rw [lexN_succ] at h
    unfold lexStep at h
    split at h
    · injection h with h; subst h; exact Nat.zero_le _
    · split at h
      · cases h
      · split at h
        · cases h
        · rename_i hh
          injection h with h
          subst h
          have := lexN_len k _ _ _ hh
          simp; omega
open Go.Lib
/-- the letters of names that are tried -/
def lettersL : List UInt8 := [97, 98, 99, 120, 121, 122, 65, 66, 90, 48, 49, 50, 51, 52, 53, 54, 55, 56, 57, 33, 36, 37, 38, 42, 43, 45, 47, 58, 60, 61, 62, 63, 94, 95, 126]
def nameB (c : Int) : UInt8 := lettersL.getD (c % 35).toNat 97
def okAt (many : Bool) (j : Nat) (c : UInt8) : Bool := isDigit c || (j == 0 && c == 45 && many)
def numK (many : Bool) (L : List UInt8) (k : Nat) : Bool := (List.range k).all fun j => okAt many j (L.getD j 0)
theorem numK_succ (many : Bool) (L : List UInt8) (k : Nat) : numK many L (k + 1) = (numK many L k && okAt many k (L.getD k 0)) := by
  unfold numK; rw [List.range_succ, List.all_append]; simp
theorem letters_ok : lettersL.all isLetter = true := by decide
theorem nameB_letter (c : Int) : isLetter (nameB c) = true := by
  have h : nameB c ∈ lettersL := by
    unfold nameB
    rw [List.getD_eq_getElem?_getD]
    cases hx : lettersL[(c % 35).toNat]? with
    | none => show (97 : UInt8) ∈ lettersL; decide
    | some v => exact List.mem_of_getElem? hx
  exact List.all_eq_true.1 letters_ok _ h
theorem letter_all : ∀ n < 256, isLetter (UInt8.ofNat n) = true → isBlank (UInt8.ofNat n) = false ∧ (UInt8.ofNat n == 59) = false ∧ (UInt8.ofNat n == 40) = false ∧ (UInt8.ofNat n == 41) = false ∧ (UInt8.ofNat n == 39) = false ∧ (UInt8.ofNat n == 35) = false := by decide +kernel
theorem letter_not (c : UInt8) (h : isLetter c = true) : isBlank c = false ∧ (c == 59) = false ∧ (c == 40) = false ∧ (c == 41) = false ∧ (c == 39) = false ∧ (c == 35) = false := by
  have := letter_all c.toNat c.toNat_lt
  rw [UInt8.ofNat_toNat] at this
  exact this h
theorem tw_all (p : UInt8 → Bool) : ∀ l : List UInt8, (∀ x ∈ l, p x = true) → l.takeWhile p = l
  | [], _ => rfl
  | c :: r, h => by rw [List.takeWhile_cons, if_pos (h c (by simp)), tw_all p r (fun x hx => h x (by simp [hx]))]
theorem lex_letters (c : UInt8) (r : List UInt8) (h : ∀ x ∈ c :: r, isLetter x = true) : lexL 0 (c :: r) = match tokP (c :: r) with
    | .error e => .error (0, e)
    | .ok t => .ok [⟨t.1, 0, t.2.1, t.2.2⟩] := by
  obtain ⟨h1, h2, h3, h4, h5, h6⟩ := letter_not c (h c (by simp))
  have hw : word (c :: r) = c :: r := by
    exact tw_all isLetter _ h
  rw [lexL_tok 0 c r (pass_fix c r h1 h2), firstP_eq, if_neg (by simp [h3]), if_neg (by simp [h4]), if_neg (by simp [h5]), if_neg (by simp [h6]), hw, if_neg (by simp)]
  cases ht : tokP (c :: r) with
  | error e => rfl
  | ok t =>
    simp only
    rw [List.drop_length, lexL_nil]
    rfl
theorem range_all (f : UInt8 → Bool) : ∀ r : List UInt8, ((List.range r.length).all fun j => f (r.getD j 0)) = r.all f
  | [] => rfl
  | c :: r => by
    rw [List.length_cons, List.range_succ_eq_map, List.all_cons, List.all_map, List.all_cons, ← range_all f r]
    rfl
theorem numP_cons2 (c : UInt8) (r : List UInt8) : numP (c :: r) = if c == 45 then r.all isDigit && !r.isEmpty else (c :: r).all isDigit := by
  unfold numP; rw [trimPre]; split
  · rfl
  · simp
theorem numK_numP (many : Bool) (c : UInt8) (r : List UInt8) (hm : many = decide (1 < (c :: r).length)) : numK many (c :: r) (c :: r).length = numP (c :: r) := by
  unfold numK
  rw [List.length_cons, List.range_succ_eq_map, List.all_cons, List.all_map]
  have e : (List.range r.length).all ((fun j => okAt many j ((c :: r).getD j 0)) ∘ Nat.succ) = r.all isDigit := by
    rw [← range_all isDigit r]
    congr 1
    funext j
    simp [okAt]
  rw [e, numP_cons2]
  by_cases hc : c == 45
  · have hc2 : c = 45 := by simpa using hc
    subst hc2
    rw [if_pos hc, hm]
    have : okAt (decide (1 < (45 :: r : List UInt8).length)) 0 ((45 :: r).getD 0 0) = !r.isEmpty := by
      cases r <;> simp [okAt, isDigit]
    rw [this, Bool.and_comm]
  · rw [if_neg hc, List.all_cons]
    congr 1
    show (isDigit c || (0 == 0 && c == 45 && many)) = isDigit c
    rw [show (c == 45) = false from by simpa using hc]; simp
theorem val_small (c : UInt8) (r : List UInt8) (hn : numP (c :: r) = true) (hl : (c :: r).length ≤ 12) : ¬ (13 < (c :: r).length ∨ valP (c :: r) ≤ -1099511627776 ∨ 1099511627776 ≤ valP (c :: r)) := by
  have key : ∀ l : List UInt8, l.all isDigit = true → l.length ≤ 12 → magP l < 1000000000000 := by
    intro l h hl
    have h1 : 10 ^ l.length ≤ 10 ^ 12 := Nat.pow_le_pow_right (by omega) hl
    have := (parse_dig l 0 h (by omega)).2
    unfold magP
    omega
  rw [numP_cons2] at hn
  simp only [List.length_cons] at hl
  by_cases hc : c == 45
  · have hc2 : c = 45 := by simpa using hc
    subst hc2
    rw [if_pos hc, Bool.and_eq_true] at hn
    have := key r hn.1 (by omega)
    show ¬ (13 < (45 :: r : List UInt8).length ∨ -(magP r : Int) ≤ -1099511627776 ∨ 1099511627776 ≤ -(magP r : Int))
    simp only [List.length_cons]
    omega
  · rw [if_neg hc] at hn
    have := key (c :: r) hn (by rw [List.length_cons]; omega)
    have hv : valP (c :: r) = (magP (c :: r) : Int) := by
      unfold valP; split
      · rename_i h; injection h with h1 _; subst h1; exact absurd rfl hc
      · rfl
    rw [hv, List.length_cons]
    omega
/-- what a name's token may be -/
theorem names_law (c : UInt8) (r : List UInt8) (h : ∀ x ∈ c :: r, isLetter x = true) :
    (numP (c :: r) = true ∧ ((∃ v, lexL 0 (c :: r) = .ok [⟨4, 0, v, []⟩]) ∨ (12 < (c :: r).length ∧ lexL 0 (c :: r) = .error (0, 51)))) ∨
    (numP (c :: r) = false ∧ 32 < (c :: r).length ∧ lexL 0 (c :: r) = .error (0, 3)) ∨
    (numP (c :: r) = false ∧ (c :: r).length ≤ 32 ∧ lexL 0 (c :: r) = .ok [⟨6, 0, 0, c :: r⟩]) := by
  rw [lex_letters c r h]
  unfold tokP
  by_cases hn : numP (c :: r) = true
  · refine .inl ⟨hn, ?_⟩
    rw [if_pos hn]
    by_cases hb : 13 < (c :: r).length ∨ valP (c :: r) ≤ -1099511627776 ∨ 1099511627776 ≤ valP (c :: r)
    · rw [if_pos hb]
      refine .inr ⟨?_, rfl⟩
      by_cases h12 : 12 < (c :: r).length
      · exact h12
      · exact absurd hb (val_small c r hn (by omega))
    · rw [if_neg hb]; exact .inl ⟨_, rfl⟩
  · rw [if_neg hn]
    have hn2 : numP (c :: r) = false := by simpa using hn
    by_cases h32 : 32 < (c :: r).length
    · rw [if_pos h32]; exact .inr (.inl ⟨hn2, h32, rfl⟩)
    · rw [if_neg h32]; exact .inr (.inr ⟨hn2, by omega, rfl⟩)
open Go.Lib
/-- a digit as it is written -/
def digB (d : Nat) : UInt8 := UInt8.ofNat (48 + d)
/-- a number as it is written -/
def decN : Nat → Nat → List UInt8
  | 0, _ => []
  | f + 1, n => if n < 10 then [digB n] else decN f (n / 10) ++ [digB (n % 10)]
def digL (v : Int) : List UInt8 := if v < 0 then 45 :: decN 14 v.natAbs else decN 14 v.natAbs
/-- a token as it is written -/
def textL (t : Tok) : List UInt8 := if t.kind = 1 then [40] else if t.kind = 2 then [41] else if t.kind = 3 then [39] else if t.kind = 4 then digL t.n else if t.kind = 5 then (if t.n = 1 then [35, 116] else [35, 102]) else t.s
theorem dig_byte (d : Nat) (h : d < 10) : isDigit (digB d) = true ∧ (digB d).toNat = 48 + d ∧ digB d ≠ 45 := by
  have key : ∀ d < 10, isDigit (digB d) = true ∧ (digB d).toNat = 48 + d ∧ digB d ≠ 45 := by decide
  exact key d h
/-- digits make the number -/
theorem decN_ok : ∀ (f n : Nat), n < 10 ^ f → (decN f n).all isDigit = true ∧ (decN f n).foldl (fun a c => a * 10 + (c.toNat - 48)) 0 = n ∧ (0 < f → decN f n ≠ [])
  | 0, n, h => by
    have : n = 0 := by simpa using h
    subst this
    exact ⟨rfl, rfl, fun h => absurd h (Nat.lt_irrefl 0)⟩
  | f + 1, n, h => by
    unfold decN
    by_cases h10 : n < 10
    · rw [if_pos h10]
      obtain ⟨h1, h2, _⟩ := dig_byte n h10
      refine ⟨by rw [List.all_cons, h1]; rfl, ?_, fun _ => by simp⟩
      simp only [List.foldl_cons, List.foldl_nil, h2]
      omega
    · rw [if_neg h10]
      have hlt : n / 10 < 10 ^ f := by rw [Nat.pow_succ] at h; omega
      obtain ⟨g1, g2, g3⟩ := decN_ok f (n / 10) hlt
      obtain ⟨h1, h2, _⟩ := dig_byte (n % 10) (by omega)
      refine ⟨by rw [List.all_append, g1, List.all_cons, h1]; rfl, ?_, fun _ => by simp⟩
      rw [List.foldl_append, g2]
      simp only [List.foldl_cons, List.foldl_nil, h2]
      omega
theorem decN_len : ∀ (f n k : Nat), 0 < k → n < 10 ^ k → (decN f n).length ≤ k
  | 0, n, k, hk, h => by simp [decN]
  | f + 1, n, k, hk, h => by
    unfold decN
    by_cases h10 : n < 10
    · rw [if_pos h10, List.length_singleton]; omega
    · rw [if_neg h10]
      match k, hk with
      | k + 1, _ =>
        rw [Nat.pow_succ] at h
        have hk0 : 0 < k := by
          match k with
          | 0 => simp at h; omega
          | k + 1 => omega
        have := decN_len f (n / 10) k hk0 (by omega)
        simp; omega
theorem digits_letters (l : List UInt8) (h : l.all isDigit = true) : ∀ x ∈ l, isLetter x = true := by
  intro x hx
  have := List.all_eq_true.1 h x hx
  unfold isLetter
  unfold isDigit at this
  rw [this]; simp
/-- a token that is read again -/
def Again (t : Tok) : Prop := ∃ c r, textL t = c :: r ∧ isBlank c = false ∧ (c == 59) = false ∧ firstP (c :: r) = .ok ((t.kind, t.n, t.s), (c :: r).length)
theorem first_word (c : UInt8) (r : List UInt8) (h : ∀ x ∈ c :: r, isLetter x = true) {t : Int × Int × List UInt8} (ht : tokP (c :: r) = .ok t) : isBlank c = false ∧ (c == 59) = false ∧ firstP (c :: r) = .ok (t, (c :: r).length) := by
  obtain ⟨h1, h2, h3, h4, h5, h6⟩ := letter_not c (h c (by simp))
  have hw : word (c :: r) = c :: r := tw_all isLetter _ h
  refine ⟨h1, h2, ?_⟩
  rw [firstP_eq, if_neg (by simp [h3]), if_neg (by simp [h4]), if_neg (by simp [h5]), if_neg (by simp [h6]), hw, if_neg (by simp), ht]
theorem word_letters (l : List UInt8) : ∀ x ∈ word l, isLetter x = true := by
  unfold word
  induction l with
  | nil => intro x h; cases h
  | cons c r ih =>
    intro x hx
    rw [List.takeWhile_cons] at hx
    split at hx
    · rename_i hc
      rcases List.mem_cons.1 hx with rfl | h
      · exact hc
      · exact ih x h
    · cases hx
theorem tok_again (w : List UInt8) (hw : ∀ x ∈ w, isLetter x = true) (hne : w ≠ []) (p : Int) {t : Int × Int × List UInt8} (ht : tokP w = .ok t) : Again ⟨t.1, p, t.2.1, t.2.2⟩ := by
  unfold tokP at ht
  split at ht
  · rename_i hn
    split at ht
    · cases ht
    · rename_i hb
      injection ht with ht
      subst ht
      have hv : ¬ 13 < w.length ∧ ¬ valP w ≤ -1099511627776 ∧ ¬ 1099511627776 ≤ valP w := ⟨fun h => hb (.inl h), fun h => hb (.inr (.inl h)), fun h => hb (.inr (.inr h))⟩
      obtain ⟨v1, v2, v3⟩ := hv
      -- the number, and how many digits it has
      have key : ∃ c r, digL (valP w) = c :: r ∧ (∀ x ∈ c :: r, isLetter x = true) ∧ tokP (c :: r) = .ok (4, valP w, []) := by
        have hN : (valP w).natAbs < 1099511627776 := by omega
        have hd := decN_ok 14 (valP w).natAbs (by omega)
        obtain ⟨d1, d2, d3⟩ := hd
        have d3 := d3 (by omega)
        have hmag : magP (decN 14 (valP w).natAbs) = (valP w).natAbs := d2
        have hl13 := decN_len 14 (valP w).natAbs 13 (by omega) (by omega)
        obtain ⟨c, r, hcr⟩ := List.exists_cons_of_ne_nil d3
        have hlet := digits_letters _ d1
        rw [hcr] at hlet d1 hmag hl13
        have hc45 : c ≠ 45 := by
          intro h; subst h; simp [isDigit] at d1
        by_cases hneg : valP w < 0
        · -- a sign ahead: twelve digits at most
          have h12 : (valP w).natAbs < 10 ^ 12 := by
            cases w with
            | nil => simp [valP, magP] at hneg
            | cons x y =>
              by_cases hx : x = 45
              · subst hx
                have hy : y.all isDigit = true := by
                  rw [numP_cons2, if_pos (by rfl), Bool.and_eq_true] at hn; exact hn.1
                have hyl : y.length ≤ 12 := by simp at v1; omega
                have h1 : 10 ^ y.length ≤ 10 ^ 12 := Nat.pow_le_pow_right (by omega) hyl
                have := (parse_dig y 0 hy (by omega)).2
                have hvv : valP (45 :: y) = -(magP y : Int) := rfl
                rw [hvv]
                unfold magP
                omega
              · have hvv : valP (x :: y) = (magP (x :: y) : Int) := by
                  unfold valP; split
                  · rename_i h; injection h with h1 _; exact absurd h1 hx
                  · rfl
                rw [hvv] at hneg; omega
          have hl12 := decN_len 14 (valP w).natAbs 12 (by omega) h12
          rw [hcr] at hl12
          refine ⟨45, c :: r, by unfold digL; rw [if_pos hneg, hcr], ?_, ?_⟩
          · intro x hx
            rcases List.mem_cons.1 hx with rfl | h
            · decide
            · exact hlet x h
          · have hnp : numP (45 :: c :: r) = true := by rw [numP_cons2, if_pos (by rfl), d1]; rfl
            have hvv : valP (45 :: c :: r) = valP w := by
              show -(magP (c :: r) : Int) = valP w
              rw [hmag]; omega
            unfold tokP
            rw [if_pos hnp, hvv, if_neg (by simp only [List.length_cons] at hl12 ⊢; omega)]
        · refine ⟨c, r, by unfold digL; rw [if_neg hneg, hcr], hlet, ?_⟩
          have hnp : numP (c :: r) = true := by
            rw [numP_cons2, if_neg (by simpa using hc45)]; exact d1
          have hvv : valP (c :: r) = valP w := by
            have : valP (c :: r) = (magP (c :: r) : Int) := by
              unfold valP; split
              · rename_i h; injection h with h1 _; exact absurd h1 hc45
              · rfl
            rw [this, hmag]; omega
          unfold tokP
          rw [if_pos hnp, hvv, if_neg (by omega)]
      obtain ⟨c, r, h1, h2, h3⟩ := key
      obtain ⟨g1, g2, g3⟩ := first_word c r h2 h3
      exact ⟨c, r, h1, g1, g2, g3⟩
  · rename_i hn
    split at ht
    · cases ht
    · rename_i hl
      injection ht with ht
      subst ht
      obtain ⟨c, r, rfl⟩ := List.exists_cons_of_ne_nil hne
      have h3 : tokP (c :: r) = .ok (6, 0, c :: r) := by unfold tokP; rw [if_neg hn, if_neg hl]
      obtain ⟨g1, g2, g3⟩ := first_word c r hw h3
      exact ⟨c, r, rfl, g1, g2, g3⟩
/-- what is read of a text is read again, and stands in it -/
theorem first_again (c : UInt8) (r : List UInt8) (p : Int) {t : Int × Int × List UInt8} {n : Nat} (h : firstP (c :: r) = .ok (t, n)) : Again ⟨t.1, p, t.2.1, t.2.2⟩ ∧ (t.1 ≠ 4 → (c :: r).take n = textL ⟨t.1, p, t.2.1, t.2.2⟩) ∧ (t.1 = 4 → -1099511627776 < t.2.1 ∧ t.2.1 < 1099511627776) ∧ 1 ≤ t.1 ∧ t.1 ≤ 6 := by
  rw [firstP_eq] at h
  by_cases h40 : (c == 40) = true
  · rw [if_pos h40] at h
    injection h with h; injection h with h1 h2; subst h1; subst h2
    have : c = 40 := by simpa using h40
    subst this
    exact ⟨⟨40, [], rfl, rfl, rfl, rfl⟩, fun _ => rfl, fun h => absurd h (by decide), by decide⟩
  rw [if_neg h40] at h
  by_cases h41 : (c == 41) = true
  · rw [if_pos h41] at h
    injection h with h; injection h with h1 h2; subst h1; subst h2
    have : c = 41 := by simpa using h41
    subst this
    exact ⟨⟨41, [], rfl, rfl, rfl, rfl⟩, fun _ => rfl, fun h => absurd h (by decide), by decide⟩
  rw [if_neg h41] at h
  by_cases h39 : (c == 39) = true
  · rw [if_pos h39] at h
    injection h with h; injection h with h1 h2; subst h1; subst h2
    have : c = 39 := by simpa using h39
    subst this
    exact ⟨⟨39, [], rfl, rfl, rfl, rfl⟩, fun _ => rfl, fun h => absurd h (by decide), by decide⟩
  rw [if_neg h39] at h
  by_cases h35 : (c == 35) = true
  · rw [if_pos h35] at h
    have hc : c = 35 := by simpa using h35
    subst hc
    have two : ∀ b : UInt8, word r = [b] → r.take 1 = [b] := fun b hb => by
      have := tw_take isLetter r
      rw [show r.takeWhile isLetter = word r from rfl, hb] at this
      simpa using this
    by_cases hT : word r = [116]
    · rw [if_pos hT] at h
      injection h with h; injection h with h1 h2; subst h1; subst h2
      refine ⟨⟨35, [116], rfl, rfl, rfl, rfl⟩, fun _ => ?_, fun h => absurd h (by decide), by decide⟩
      rw [List.take_succ_cons, two _ hT]; rfl
    · rw [if_neg hT] at h
      by_cases hF : word r = [102]
      · rw [if_pos hF] at h
        injection h with h; injection h with h1 h2; subst h1; subst h2
        refine ⟨⟨35, [102], rfl, rfl, rfl, rfl⟩, fun _ => ?_, fun h => absurd h (by decide), by decide⟩
        rw [List.take_succ_cons, two _ hF]; rfl
      · rw [if_neg hF] at h; cases h
  rw [if_neg h35] at h
  by_cases hw : word (c :: r) = []
  · rw [if_pos hw] at h; cases h
  rw [if_neg hw] at h
  cases ht : tokP (word (c :: r)) with
  | error e => rw [ht] at h; cases h
  | ok t2 =>
    rw [ht] at h
    injection h with h; injection h with h1 h2; subst h1; subst h2
    have hk := tw_take isLetter (c :: r)
    have hb : (t2.1 = 4 → -1099511627776 < t2.2.1 ∧ t2.2.1 < 1099511627776) ∧ 1 ≤ t2.1 ∧ t2.1 ≤ 6 := by
      unfold tokP at ht
      split at ht
      · split at ht
        · cases ht
        · rename_i hb
          injection ht with ht; subst ht
          exact ⟨fun _ => ⟨by simp only; omega, by simp only; omega⟩, by simp only; omega⟩
      · split at ht
        · cases ht
        · injection ht with ht; subst ht; exact ⟨fun h => absurd h (by simp), by simp⟩
    refine ⟨tok_again _ (word_letters _) hw p ht, fun h4 => ?_, hb⟩
    have : t2 = (6, 0, word (c :: r)) := by
      unfold tokP at ht
      split at ht
      · split at ht
        · cases ht
        · injection ht with ht; subst ht; exact absurd rfl h4
      · split at ht
        · cases ht
        · injection ht with ht; exact ht.symm
    subst this
    exact hk
/-- tokens as they are written, with a blank behind each -/
def againL (ts : List Tok) : List UInt8 := ts.flatMap fun t => textL t ++ [32]
def wantL : Nat → List Tok → List Tok
  | _, [] => []
  | p, t :: r => ⟨t.kind, (p : Int), t.n, t.s⟩ :: wantL (p + ((textL t).length + 1)) r
theorem lex_again : ∀ (ts : List Tok) (p : Nat), (∀ t ∈ ts, Again t) → lexL p (againL ts) = .ok (wantL p ts)
  | [], p, _ => rfl
  | t :: ts, p, h => by
    obtain ⟨c, r, h1, h2, h3, h4⟩ := h t (by simp)
    have e : againL (t :: ts) = c :: (r ++ 32 :: againL ts) := by
      show (textL t ++ [32]) ++ againL ts = _
      rw [h1]; simp
    rw [e, lexL_tok p c _ (pass_fix c _ h2 h3), firstP_app c r _ (.inr ⟨32, againL ts, rfl, by decide⟩), h4]
    have hd : (c :: (r ++ 32 :: againL ts)).drop (c :: r).length = 32 :: againL ts := by
      rw [show c :: (r ++ 32 :: againL ts) = (c :: r) ++ 32 :: againL ts from rfl, List.drop_left]
    simp only
    have hnl : lexL (p + (c :: r).length) (32 :: againL ts) = lexL (p + (c :: r).length + 1) (againL ts) := by
      have hl := pass_le false (againL ts)
      generalize p + (c :: r).length = q
      rw [lexL_pass, lexL_pass (q + 1), show pass false (32 :: againL ts) = pass false (againL ts) from by rw [pass_f]; rfl, List.length_cons, show q + ((againL ts).length + 1 - (pass false (againL ts)).length) = q + 1 + ((againL ts).length - (pass false (againL ts)).length) from by omega]
    rw [hd, hnl, lex_again ts _ (fun t ht => h t (by simp [ht]))]
    show _ = Except.ok (wantL p (t :: ts))
    rw [wantL, h1]
    rfl
/-- how tokens stand in a text: each behind the last, where it says, and read again -/
def Stand (full : List UInt8) : Int → List Tok → Prop
  | _, [] => True
  | last, t :: r => last < t.pos ∧ t.pos < full.length ∧ Again t ∧ ((t.kind = 4 → -1099511627776 < t.n ∧ t.n < 1099511627776) ∧ 1 ≤ t.kind ∧ t.kind ≤ 6) ∧ (t.kind ≠ 4 → t.pos + (textL t).length ≤ full.length ∧ (full.drop t.pos.toNat).take (textL t).length = textL t) ∧ Stand full t.pos r
theorem stand_ok (full : List UInt8) : ∀ (n i : Nat) (ts : List Tok) (last : Int), full.length - i ≤ n → last < i → i ≤ full.length → lexL i (full.drop i) = .ok ts → Stand full last ts
  | n, i, ts, last, hn, hlast, hi, h => by
    rw [lexL_pass] at h
    have hl := pass_le false (full.drop i)
    have hs := pass_suffix false (full.drop i)
    rw [List.drop_drop] at hs
    rw [List.length_drop] at h hl hs
    generalize hj : i + (full.length - i - (pass false (full.drop i)).length) = j at h hs
    cases hp : pass false (full.drop i) with
    | nil => rw [hp, lexL_nil] at h; injection h with h; subst h; trivial
    | cons c r =>
      have hh := pass_head false _ c r hp
      rw [hp] at h hl hs hj
      simp only [List.length_cons] at hl hj
      rw [lexL_tok _ c r (pass_fix c r hh.1 hh.2)] at h
      cases hf : firstP (c :: r) with
      | error e => rw [hf] at h; cases h
      | ok x =>
        obtain ⟨t0, k⟩ := x
        have hk := firstP_pos hf
        rw [hf] at h
        simp only at h
        rw [hs, List.drop_drop] at h
        match n, hn with
        | 0, hn => omega
        | n + 1, hn =>
          cases hr : lexL (j + k) (full.drop (j + k)) with
          | error e => rw [hr] at h; cases h
          | ok ts' =>
            rw [hr] at h
            injection h with h
            subst h
            obtain ⟨a1, a2, a4⟩ := first_again c r (j : Int) hf
            refine ⟨by simp only; omega, by simp only; omega, a1, a4, fun h4 => ?_, stand_ok full n (j + k) ts' (j : Int) (by omega) (by omega) (by omega) hr⟩
            have a3 := a2 h4
            have hlen : (textL ⟨t0.1, (j : Int), t0.2.1, t0.2.2⟩).length = k := by
              rw [← a3, List.length_take, List.length_cons]; omega
            refine ⟨by simp only [hlen]; omega, ?_⟩
            rw [hlen, Int.toNat_natCast, ← hs]
            exact a3
theorem stand_again (full : List UInt8) : ∀ (ts : List Tok) (last : Int), Stand full last ts → ∀ t ∈ ts, Again t
  | [], _, _, t, ht => by cases ht
  | t0 :: ts, last, h, t, ht => by
    obtain ⟨_, _, h3, _, _, h5⟩ := h
    rcases List.mem_cons.1 ht with rfl | ht
    · exact h3
    · exact stand_again full ts _ h5 t ht
theorem wantL_app : ∀ (a b : List Tok) (p : Nat), wantL p (a ++ b) = wantL p a ++ wantL (p + (againL a).length) b
  | [], b, p => rfl
  | t :: a, b, p => by
    show _ :: wantL _ (a ++ b) = _
    rw [wantL_app a b]
    have e : (againL (t :: a)).length = (textL t).length + 1 + (againL a).length := by
      show ((textL t ++ [32]) ++ againL a).length = _
      simp; omega
    rw [e, Nat.add_assoc, Nat.add_assoc]
    rfl
theorem wantL_len : ∀ (a : List Tok) (p : Nat), (wantL p a).length = a.length
  | [], _ => rfl
  | t :: a, p => by rw [wantL, List.length_cons, wantL_len a, List.length_cons]
theorem decN_le : ∀ f n : Nat, (decN f n).length ≤ f
  | 0, n => by simp [decN]
  | f + 1, n => by
    have := decN_le f (n / 10)
    unfold decN
    split <;> simp <;> omega
theorem text_len (full : List UInt8) (t : Tok) (h : t.kind ≠ 4 → t.pos + (textL t).length ≤ full.length) (h0 : 0 ≤ t.pos) : (textL t).length ≤ full.length + 15 := by
  by_cases h4 : t.kind = 4
  · have := decN_le 14 t.n.natAbs
    unfold textL
    rw [h4, if_neg (by decide), if_neg (by decide), if_neg (by decide), if_pos rfl]
    unfold digL
    split <;> simp <;> omega
  · have := h h4
    omega
end Go.Proofs.YtomhkemdafiphaaGreatDoor.LexP
/- Layer 6 (read) in plain lists: data of tokens; no conditions. -/
namespace Go.Proofs.YtomhkemdafiphaaGreatDoor.ReadP
open Go.Proofs.YtomhkemdafiphaaGreatDoor.LexP
/-- a datum -/
structure Nd where
  kind : Int
  pos : Int
  n : Int
  s : List UInt8
  l : List Int
  deriving DecidableEq
/-- a list that is open -/
structure Pt where
  at_ : Int
  quote : Bool
  l : List Int
  deriving DecidableEq
/-- a datum that is whole is put; what is open: the last one first -/
def putS : List Nd → List Int → List Pt → Nd → List Nd × List Int × List Pt
  | row, tops, [], x => (row ++ [x], tops ++ [(row.length : Int)], [])
  | row, tops, o :: os, x => if o.quote && o.l.length == 1 then putS (row ++ [x]) tops os ⟨4, o.at_, 0, [], o.l ++ [(row.length : Int)]⟩ else (row ++ [x], tops, ⟨o.at_, o.quote, o.l ++ [(row.length : Int)]⟩ :: os)
def quoteL : List UInt8 := [113, 117, 111, 116, 101]
/-- a token is read, or what is wrong -/
def tokS (st : List Nd × List Int × List Pt) (t : Tok) : Except Int (List Nd × List Int × List Pt) :=
  if t.kind = 4 then .ok (putS st.1 st.2.1 st.2.2 ⟨1, t.pos, t.n, [], []⟩)
  else if t.kind = 5 then .ok (putS st.1 st.2.1 st.2.2 ⟨2, t.pos, t.n, [], []⟩)
  else if t.kind = 6 then .ok (putS st.1 st.2.1 st.2.2 ⟨3, t.pos, 0, t.s, []⟩)
  else if t.kind = 2 then (match st.2.2 with
    | [] => .error 61
    | o :: os => if o.quote then .error 63 else .ok (putS st.1 st.2.1 os ⟨4, o.at_, 0, [], o.l⟩))
  else if 50 ≤ st.2.2.length then .error 62
  else if t.kind = 3 then .ok (putS st.1 st.2.1 (⟨t.pos, true, []⟩ :: st.2.2) ⟨3, t.pos, 0, quoteL, []⟩)
  else .ok (st.1, st.2.1, ⟨t.pos, false, []⟩ :: st.2.2)
/-- tokens are read one by one: or where it is wrong, and how -/
def toksS : List Nd × List Int × List Pt → List Tok → Except (Int × Int) (List Nd × List Int × List Pt)
  | st, [] => .ok st
  | st, t :: ts => match tokS st t with
    | .error e => .error (t.pos, e)
    | .ok st' => toksS st' ts
/-- what is open at the end is wrong -/
def endS (last : Option Tok) (st : List Nd × List Int × List Pt) : Except (Int × Int) (List Nd × List Int) := match st.2.2 with
  | [] => .ok (st.1, st.2.1)
  | o :: _ => .error (o.at_, if last.map (·.kind) = some 3 then 63 else 60)
/-- what comes of tokens -/
def readT (ts : List Tok) : Except (Int × Int) (List Nd × List Int) := match toksS ([], [], []) ts with
  | .error e => .error e
  | .ok st => endS ts.getLast? st
/-- Read -/
def readF (l : List UInt8) : Except (Int × Int) (List Nd × List Int) := match lexF l with
  | .error (i, e) => .error ((i : Int), e)
  | .ok ts => readT ts
end Go.Proofs.YtomhkemdafiphaaGreatDoor.ReadP
/- How much there is after so many tokens, in plain lists; each states its conditions. -/
namespace Go.Proofs.YtomhkemdafiphaaGreatDoor.ReadP
open Go.Proofs.YtomhkemdafiphaaGreatDoor.LexP
theorem put_small (m : Nat) : ∀ (row : List Nd) (tops : List Int) (os : List Pt) (x : Nd), (∀ o ∈ os, o.l.length ≤ m) →
    (putS row tops os x).1.length + (putS row tops os x).2.2.length = row.length + os.length + 1 ∧ (putS row tops os x).2.1.length ≤ tops.length + 1 ∧ (putS row tops os x).2.2.length ≤ os.length ∧ ∀ o ∈ (putS row tops os x).2.2, o.l.length ≤ m + 1
  | row, tops, [], x, _ => by simp [putS]
  | row, tops, o :: os, x, h => by
    unfold putS
    split
    · obtain ⟨h1, h2, h3, h4⟩ := put_small m (row ++ [x]) tops os ⟨4, o.at_, 0, [], o.l ++ [(row.length : Int)]⟩ (fun o' ho => h o' (List.mem_cons_of_mem _ ho))
      rw [List.length_append, List.length_singleton] at h1
      refine ⟨by rw [h1, List.length_cons]; omega, h2, by rw [List.length_cons]; omega, h4⟩
    · refine ⟨by simp; omega, by simp, by simp, fun o' ho => ?_⟩
      rcases List.mem_cons.1 ho with rfl | ho
      · have := h o (List.mem_cons_self ..)
        simp; omega
      · have := h o' (List.mem_cons_of_mem _ ho)
        omega
/-- how much there is after so many tokens -/
def Inv (k : Nat) (st : List Nd × List Int × List Pt) : Prop := st.1.length + st.2.2.length ≤ 2 * k ∧ st.2.1.length ≤ k ∧ st.2.2.length ≤ 50 ∧ ∀ o ∈ st.2.2, o.l.length ≤ k
theorem tok_small {k : Nat} {st st' : List Nd × List Int × List Pt} {t : Tok} (h : Inv k st) (ht : tokS st t = .ok st') : Inv (k + 1) st' := by
  obtain ⟨row, tops, os⟩ := st
  obtain ⟨h1, h2, h3, h4⟩ := h
  simp only at h1 h2 h3 h4
  have pd : ∀ x, Inv (k + 1) (putS row tops os x) := fun x => by
    obtain ⟨g1, g2, g3, g4⟩ := put_small k row tops os x h4
    exact ⟨by omega, by omega, by omega, g4⟩
  unfold tokS at ht
  simp only at ht
  split at ht
  · injection ht with ht; rw [← ht]; exact pd _
  split at ht
  · injection ht with ht; rw [← ht]; exact pd _
  split at ht
  · injection ht with ht; rw [← ht]; exact pd _
  split at ht
  · cases os with
    | nil => cases ht
    | cons o os =>
      simp only at ht
      split at ht
      · cases ht
      · injection ht with ht
        rw [← ht]
        simp only [List.length_cons] at h1 h3
        obtain ⟨g1, g2, g3, g4⟩ := put_small k row tops os ⟨4, o.at_, 0, [], o.l⟩ (fun o' ho => h4 o' (List.mem_cons_of_mem _ ho))
        exact ⟨by omega, by omega, by omega, g4⟩
  split at ht
  · cases ht
  rename_i hd
  split at ht
  · injection ht with ht
    rw [← ht]
    obtain ⟨g1, g2, g3, g4⟩ := put_small k row tops (⟨t.pos, true, []⟩ :: os) ⟨3, t.pos, 0, quoteL, []⟩ (fun o' ho => by
      rcases List.mem_cons.1 ho with rfl | ho
      · exact Nat.zero_le _
      · exact h4 o' ho)
    rw [List.length_cons] at g1 g3
    exact ⟨by omega, by omega, by omega, g4⟩
  · injection ht with ht
    rw [← ht]
    refine ⟨by simp; omega, by simp only; omega, by simp; omega, fun o' ho => ?_⟩
    rcases List.mem_cons.1 ho with rfl | ho
    · exact Nat.zero_le _
    · exact Nat.le_succ_of_le (h4 o' ho)
theorem kinds_of (full : List UInt8) : ∀ (ts : List Tok) (last : Int), Stand full last ts → ∀ t ∈ ts, 1 ≤ t.kind ∧ t.kind ≤ 6
  | [], _, _, t, ht => by cases ht
  | t0 :: ts, last, h, t, ht => by
    obtain ⟨_, _, _, h3, _, h5⟩ := h
    rcases List.mem_cons.1 ht with rfl | ht
    · exact h3.2
    · exact kinds_of full ts _ h5 t ht
theorem lexF_kinds {l : List UInt8} {ts : List Tok} (h : lexF l = .ok ts) : (∀ t ∈ ts, 1 ≤ t.kind ∧ t.kind ≤ 6) ∧ ts.length ≤ 4001 := by
  unfold lexF at h
  split at h
  · cases h
  · rename_i hl
    have hs := stand_ok l l.length 0 ts (-1) (by omega) (by omega) (by omega) (by rw [List.drop_zero]; exact h)
    refine ⟨kinds_of l ts _ hs, ?_⟩
    have := lexN_len _ _ _ _ h
    omega
end Go.Proofs.YtomhkemdafiphaaGreatDoor.ReadP
namespace Go.Proofs.YtomhkemdafiphaaGreatDoor.ReadP
/-- is a datum one of data, but for its list? -/
def rightB (x : Nd) : Bool := !decide (x.pos < 0) && (x.s == [] || x.kind == 3) && (x.kind == 4 || x.l == []) && (x.kind == 1 || (x.kind == 2 && (x.n == 0 || x.n == 1)) || ((x.kind == 3 || x.kind == 4) && x.n == 0))
/-- places of a list: which have been seen behind it -/
def seenF (i : Nat) : List Int → List Int → Option (List Int)
  | seen, [] => some seen
  | seen, p :: ps => if p < 0 ∨ (i : Int) ≤ p ∨ p ∈ seen then none else seenF i (seen ++ [p]) ps
/-- may data be a row? -/
def mayF (i : Nat) (seen : List Int) : List Nd → Bool
  | [] => true
  | x :: xs => rightB x && (match seenF i seen x.l with | none => false | some s => mayF (i + 1) s xs)
theorem may_at {L : List Nd} {k : Nat} {x : Nd} (h : L[k]? = some x) (seen : List Int) : mayF k seen (L.drop k) = (rightB x && (match seenF k seen x.l with | none => false | some s => mayF (k + 1) s (L.drop (k + 1)))) := by
  have hk : k < L.length := (List.getElem?_eq_some_iff.1 h).1
  rw [List.drop_eq_getElem_cons hk, show L[k] = x from (List.getElem?_eq_some_iff.1 h).2]
  rfl
theorem seen_at {l : List Int} {j : Nat} {p : Int} (h : l[j]? = some p) (i : Nat) (seen : List Int) : seenF i seen (l.drop j) = if p < 0 ∨ (i : Int) ≤ p ∨ p ∈ seen then none else seenF i (seen ++ [p]) (l.drop (j + 1)) := by
  have hk : j < l.length := (List.getElem?_eq_some_iff.1 h).1
  rw [List.drop_eq_getElem_cons hk, show l[j] = p from (List.getElem?_eq_some_iff.1 h).2]
  rfl
end Go.Proofs.YtomhkemdafiphaaGreatDoor.ReadP
/- Sums over data of which each is part of one list at most; each states its conditions. -/
namespace Go.Proofs.YtomhkemdafiphaaGreatDoor.TreeP
open Go.Proofs.YtomhkemdafiphaaGreatDoor.LexP Go.Proofs.YtomhkemdafiphaaGreatDoor.ReadP
def nd (L : List Nd) (i : Int) : Nd := L.getD i.toNat ⟨0, 0, 0, [], []⟩
def el (l : List Int) (k : Nat) : Int := l.getD k 0
/-- each part is ahead of its list -/
def Ahead (L : List Nd) : Prop := ∀ (i : Nat) x, L[i]? = some x → ∀ p ∈ x.l, 0 ≤ p ∧ p < i
theorem nd_in {L : List Nd} {i : Int} {p : Int} (hp : p ∈ (nd L i).l) : L[i.toNat]? = some (nd L i) := by
  unfold nd at hp ⊢
  rw [List.getD_eq_getElem?_getD] at hp ⊢
  cases h : L[i.toNat]? with
  | none => rw [h] at hp; cases hp
  | some x => rfl
theorem Ahead.at {L : List Nd} (h : Ahead L) {i p : Int} (hi : 0 ≤ i) (hp : p ∈ (nd L i).l) : 0 ≤ p ∧ p < i := by
  have := h i.toNat _ (nd_in hp) p hp
  omega
/-- sums over trees -/
theorem tree_sum (l : Nat → List Nat) (own T : Nat → Nat) (hi : ∀ i, ∀ p ∈ l i, p < i) (hd : ∀ i j p, p ∈ l i → p ∈ l j → i = j) (hn : ∀ i, (l i).Nodup) (hT : ∀ i, T i ≤ own i + ((l i).map T).sum) :
    ∀ (n : Nat) (Q : List Nat), Q.Nodup → (∀ q ∈ Q, q < n) → (∀ q ∈ Q, ∀ j, j < n → q ∉ l j) → (Q.map T).sum ≤ ((List.range n).map own).sum
  | 0, Q, _, h1, _ => by
    cases Q with
    | nil => exact Nat.le_refl _
    | cons q Q => exact absurd (h1 q (List.mem_cons_self ..)) (Nat.not_lt_zero _)
  | n + 1, Q, h0, h1, h2 => by
    rw [List.range_succ, List.map_append, List.sum_append, List.map_singleton, List.sum_singleton]
    by_cases hm : n ∈ Q
    · have hp := List.perm_cons_erase hm
      have hs : (Q.map T).sum = T n + ((Q.erase n).map T).sum := by
        have := (hp.map T).sum_nat
        simpa using this
      have h0e := h0.erase n
      have ih := tree_sum l own T hi hd hn hT n (Q.erase n ++ l n) (by
        rw [List.nodup_append]
        refine ⟨h0e, hn n, fun a ha b hb hab => ?_⟩
        subst hab
        exact h2 a (List.mem_of_mem_erase ha) n (Nat.lt_succ_self n) hb) (fun q hq => by
        rcases List.mem_append.1 hq with hq | hq
        · have h3 := h1 q (List.mem_of_mem_erase hq)
          have h4 : q ≠ n := fun e => by subst e; exact h0.not_mem_erase hq
          omega
        · exact hi n q hq) (fun q hq j hj => by
        rcases List.mem_append.1 hq with hq | hq
        · exact h2 q (List.mem_of_mem_erase hq) j (by omega)
        · intro hqj
          have := hd n j q hq hqj
          omega)
      rw [List.map_append, List.sum_append] at ih
      have := hT n
      omega
    · have ih := tree_sum l own T hi hd hn hT n Q h0 (fun q hq => by
        have h3 := h1 q hq
        have h4 : q ≠ n := fun e => hm (e ▸ hq)
        omega) (fun q hq j hj => h2 q hq j (by omega))
      omega
theorem sum_le {f : Nat → Nat} {c : Nat} : ∀ n : Nat, (∀ i, i < n → f i ≤ c) → ((List.range n).map f).sum ≤ n * c
  | 0, _ => by simp
  | n + 1, h => by
    rw [List.range_succ, List.map_append, List.sum_append, List.map_singleton, List.sum_singleton, Nat.succ_mul]
    have := sum_le (f := f) (c := c) n (fun i hi => h i (by omega))
    have := h n (by omega)
    omega
theorem seen_some {i : Nat} : ∀ (ps seen s : List Int), seenF i seen ps = some s → s = seen ++ ps ∧ (∀ p ∈ ps, 0 ≤ p ∧ p < i) ∧ (seen.Nodup → s.Nodup)
  | [], seen, s, h => by
    injection h with h
    subst h
    exact ⟨by simp, fun p hp => (by cases hp), id⟩
  | p :: ps, seen, s, h => by
    unfold seenF at h
    split at h
    · cases h
    · rename_i hn
      have hp : 0 ≤ p ∧ p < i ∧ p ∉ seen := ⟨by omega, by omega, fun hm => hn (.inr (.inr hm))⟩
      obtain ⟨h1, h2, h3⟩ := seen_some ps (seen ++ [p]) s h
      refine ⟨by rw [h1]; simp, fun q hq => ?_, fun hs => h3 ?_⟩
      · rcases List.mem_cons.1 hq with rfl | hq
        · exact ⟨hp.1, hp.2.1⟩
        · exact h2 q hq
      · rw [List.nodup_append]
        refine ⟨hs, by simp, fun a ha b hb hab => ?_⟩
        have : b = p := by simpa using hb
        subst this; subst hab
        exact hp.2.2 ha
theorem may_all : ∀ (L : List Nd) (i : Nat) (seen : List Int), seen.Nodup → mayF i seen L = true → (seen ++ L.flatMap (·.l)).Nodup ∧ ∀ (k : Nat) x, L[k]? = some x → rightB x = true ∧ ∀ p ∈ x.l, 0 ≤ p ∧ p < (i + k : Nat)
  | [], i, seen, hs, _ => ⟨by simpa using hs, fun k x h => by simp at h⟩
  | y :: L, i, seen, hs, h => by
    unfold mayF at h
    rw [Bool.and_eq_true] at h
    obtain ⟨hr, h⟩ := h
    cases he : seenF i seen y.l with
    | none => rw [he] at h; cases h
    | some s =>
      rw [he] at h
      obtain ⟨h1, h2, h3⟩ := seen_some _ _ _ he
      obtain ⟨g1, g2⟩ := may_all L (i + 1) s (h3 hs) h
      refine ⟨by rw [List.flatMap_cons, ← List.append_assoc, ← h1]; exact g1, fun k x hk => ?_⟩
      cases k with
      | zero =>
        have : y = x := by simpa using hk
        subst this
        exact ⟨hr, h2⟩
      | succ k =>
        obtain ⟨a1, a2⟩ := g2 k x (by simpa using hk)
        exact ⟨a1, fun p hp => by have := a2 p hp; omega⟩
theorem flat_one : ∀ (L : List Nd), (L.flatMap (·.l)).Nodup → (∀ x ∈ L, x.l.Nodup) ∧ ∀ (i j : Nat) x y p, L[i]? = some x → L[j]? = some y → p ∈ x.l → p ∈ y.l → i = j
  | [], _ => ⟨fun x hx => (by cases hx), fun i j x y p hi => by simp at hi⟩
  | z :: L, h => by
    rw [List.flatMap_cons, List.nodup_append] at h
    obtain ⟨h1, h2, h3⟩ := h
    obtain ⟨g1, g2⟩ := flat_one L h2
    refine ⟨fun x hx => ?_, fun i j x y p hi hj hx hy => ?_⟩
    · rcases List.mem_cons.1 hx with rfl | hx
      · exact h1
      · exact g1 x hx
    · cases i with
      | zero =>
        have : z = x := by simpa using hi
        subst this
        cases j with
        | zero => rfl
        | succ j => exact absurd rfl (h3 p hx p (List.mem_flatMap.2 ⟨y, List.mem_of_getElem? (by simpa using hj), hy⟩))
      | succ i =>
        cases j with
        | zero =>
          have : z = y := by simpa using hj
          subst this
          exact absurd rfl (h3 p hy p (List.mem_flatMap.2 ⟨x, List.mem_of_getElem? (by simpa using hi), hx⟩))
        | succ j => rw [g2 i j x y p (by simpa using hi) (by simpa using hj) hx hy]
theorem nodup_toNat : ∀ l : List Int, l.Nodup → (∀ p ∈ l, 0 ≤ p) → (l.map Int.toNat).Nodup
  | [], _, _ => by simp
  | p :: l, h, h0 => by
    rw [List.nodup_cons] at h
    rw [List.map_cons, List.nodup_cons]
    refine ⟨fun hm => ?_, nodup_toNat l h.2 (fun q hq => h0 q (List.mem_cons_of_mem _ hq))⟩
    obtain ⟨q, hq, he⟩ := List.mem_map.1 hm
    have h1 := h0 q (List.mem_cons_of_mem _ hq)
    have h2 := h0 p (List.mem_cons_self ..)
    have : q = p := by omega
    exact h.1 (this ▸ hq)
/-- each datum is part of one list at most, that is behind it -/
structure Tree (L : List Nd) : Prop where
  ahead : Ahead L
  one : (L.flatMap (·.l)).Nodup
theorem Tree.of_may {L : List Nd} (h : mayF 0 [] L = true) : Tree L := by
  obtain ⟨h1, h2⟩ := may_all L 0 [] (by simp) h
  exact ⟨fun i x hi p hp => by have := (h2 i x hi).2 p hp; omega, by simpa using h1⟩
theorem Tree.sum {L : List Nd} (h : Tree L) (own T : Nat → Nat) (hT : ∀ i : Nat, T i ≤ own i + ((nd L i).l.map fun p => T p.toNat).sum) (i c : Nat) (hc : ∀ j, j ≤ i → own j ≤ c) : T i ≤ (i + 1) * c := by
  obtain ⟨g1, g2⟩ := flat_one L h.one
  have hmem : ∀ (j p : Nat), p ∈ (nd L j).l.map Int.toNat → ∃ q : Int, q ∈ (nd L j).l ∧ q = p ∧ L[j]? = some (nd L j) := fun j p hp => by
    obtain ⟨q, hq, he⟩ := List.mem_map.1 hp
    have hn := nd_in hq
    rw [Int.toNat_natCast] at hn
    have := h.ahead.at (i := (j : Int)) (by omega) hq
    exact ⟨q, hq, by omega, hn⟩
  have hs := tree_sum (fun j => (nd L j).l.map Int.toNat) own T (fun j p hp => by
    obtain ⟨q, hq, he, _⟩ := hmem j p hp
    have := h.ahead.at (i := (j : Int)) (by omega) hq
    omega) (fun j k p hj hk => by
    obtain ⟨q, hq, he, h1⟩ := hmem j p hj
    obtain ⟨q', hq', he', h1'⟩ := hmem k p hk
    have : q = q' := by omega
    subst this
    exact g2 j k _ _ q h1 h1' hq hq') (fun j => by
    cases hl : (nd L (j : Int)).l with
    | nil => simp
    | cons p0 l0 =>
      rw [← hl]
      have hn : L[j]? = some (nd L (j : Int)) := by
        have := nd_in (L := L) (i := (j : Int)) (p := p0) (by rw [hl]; exact List.mem_cons_self ..)
        simpa using this
      exact nodup_toNat _ (g1 _ (List.mem_of_getElem? hn)) (fun q hq => (h.ahead.at (i := (j : Int)) (by omega) hq).1)) (fun j => by
    rw [List.map_map]
    exact hT j) (i + 1) [i] (by simp) (fun q hq => by have : q = i := by simpa using hq
                                                      omega) (fun q hq j hj hm => by
    have : q = i := by simpa using hq
    subst this
    obtain ⟨q', hq', he, _⟩ := hmem j q hm
    have := h.ahead.at (i := (j : Int)) (by omega) hq'
    omega)
  have h2 := sum_le (f := own) (c := c) (i + 1) (fun j hj => hc j (by omega))
  simp only [List.map_singleton, List.sum_singleton] at hs
  omega
end Go.Proofs.YtomhkemdafiphaaGreatDoor.TreeP
/- Layer 7 (show) in plain lists: a datum's text, and how long it is; each states its conditions. -/
namespace Go.Proofs.YtomhkemdafiphaaGreatDoor.ShowP
open Go.Proofs.YtomhkemdafiphaaGreatDoor.LexP Go.Proofs.YtomhkemdafiphaaGreatDoor.ReadP Go.Proofs.YtomhkemdafiphaaGreatDoor.TreeP
open Go.Lib (itoa)
def markB (b : Bool) : List UInt8 := if b then [35, 116] else [35, 102]
/-- what stands behind the first of a list -/
def moreX (fm : Int → List UInt8) : List Int → List UInt8
  | [] => []
  | p :: l => 32 :: (fm p ++ moreX fm l)
def itemsX (fm : Int → List UInt8) : List Int → List UInt8
  | [] => []
  | p :: l => fm p ++ moreX fm l
/-- is a list a quote? -/
def isQuoted (L : List Nd) (i : Int) : Prop := (nd L i).l.length = 2 ∧ (nd L (el (nd L i).l 0)).kind = 3 ∧ (nd L (el (nd L i).l 0)).s = quoteL
instance (L : List Nd) (i : Int) : Decidable (isQuoted L i) := by unfold isQuoted; infer_instance
def datS (fm : Int → List UInt8) (L : List Nd) (i : Int) : List UInt8 :=
  if (nd L i).kind = 1 then itoa (nd L i).n
  else if (nd L i).kind = 2 then markB (decide ((nd L i).n = 1))
  else if (nd L i).kind = 3 then (nd L i).s
  else if isQuoted L i then 39 :: fm (el (nd L i).l 1)
  else 40 :: (itemsX fm (nd L i).l ++ [41])
/-- a datum's text -/
def datX (L : List Nd) : Nat → Int → List UInt8
  | 0, _ => []
  | n + 1, i => datS (datX L n) L i
theorem more_len (fm : Int → List UInt8) : ∀ l : List Int, (moreX fm l).length = l.length + (l.map fun p => (fm p).length).sum
  | [] => rfl
  | p :: l => by simp only [moreX, List.length_cons, List.length_append, List.map_cons, List.sum_cons]; rw [more_len fm l]; omega
theorem items_len (fm : Int → List UInt8) : ∀ l : List Int, (itemsX fm l).length ≤ l.length + (l.map fun p => (fm p).length).sum
  | [] => Nat.le_refl _
  | p :: l => by simp only [itemsX, List.length_cons, List.length_append, List.map_cons, List.sum_cons]; rw [more_len fm l]; omega
theorem more_congr {f h : Int → List UInt8} : ∀ l : List Int, (∀ p ∈ l, f p = h p) → moreX f l = moreX h l
  | [], _ => rfl
  | p :: l, k => by simp only [moreX]; rw [k p (List.mem_cons_self ..), more_congr l (fun q hq => k q (List.mem_cons_of_mem _ hq))]
theorem items_congr {f h : Int → List UInt8} : ∀ l : List Int, (∀ p ∈ l, f p = h p) → itemsX f l = itemsX h l
  | [], _ => rfl
  | p :: l, k => by simp only [itemsX]; rw [k p (List.mem_cons_self ..), more_congr l (fun q hq => k q (List.mem_cons_of_mem _ hq))]
theorem datS_congr {f h : Int → List UInt8} (L : List Nd) (i : Int) (k : ∀ p ∈ (nd L i).l, f p = h p) : datS f L i = datS h L i := by
  unfold datS
  split
  · rfl
  split
  · rfl
  split
  · rfl
  split
  · rename_i hq
    have h2 : 1 < (nd L i).l.length := by have := hq.1; omega
    rw [k _ (by unfold el; rw [List.getD_eq_getElem?_getD, List.getElem?_eq_getElem h2]; exact List.getElem_mem h2)]
  · rw [items_congr _ k]
/-- more fuel changes nothing -/
theorem dat_fuel {L : List Nd} (h : Ahead L) : ∀ (n m : Nat) (i : Int), 0 ≤ i → i < n → i < m → datX L n i = datX L m i
  | 0, _, _, h0, h1, _ => by omega
  | _, 0, _, h0, _, h2 => by omega
  | n + 1, m + 1, i, h0, h1, h2 => by
    simp only [datX]
    exact datS_congr L i (fun p hp => by
      have := h.at h0 hp
      exact dat_fuel h n m p this.1 (by omega) (by omega))
theorem dat_step {L : List Nd} (h : Ahead L) (i : Nat) (hz : (itoa (nd L i).n).length ≤ 24) : (datX L (i + 1) (i : Int)).length ≤ (24 + (nd L i).s.length + (nd L i).l.length) + ((nd L i).l.map fun p => (datX L (p.toNat + 1) (p.toNat : Int)).length).sum := by
  have hs : ((nd L (i : Int)).l.map fun p => (datX L (p.toNat + 1) (p.toNat : Int)).length) = (nd L (i : Int)).l.map fun p => (datX L i p).length := List.map_congr_left (fun p hp => by
    have := h.at (i := (i : Int)) (by omega) hp
    have e : ((p.toNat : Nat) : Int) = p := by omega
    rw [e, dat_fuel h (p.toNat + 1) i p this.1 (by omega) (by omega)])
  rw [hs]
  simp only [datX]
  unfold datS
  split
  · omega
  split
  · unfold markB; split <;> simp <;> omega
  split
  · omega
  split
  · rename_i hq
    obtain ⟨a, b, he⟩ : ∃ a b, (nd L (i : Int)).l = [a, b] := by
      match h2 : (nd L (i : Int)).l, hq.1 with
      | [a, b], _ => exact ⟨a, b, rfl⟩
    rw [he]
    simp [el]
    omega
  · have := items_len (datX L i) (nd L (i : Int)).l
    simp only [List.length_cons, List.length_append, List.length_nil]
    omega
/-- a text is not longer than all that stands in the data -/
theorem dat_len {L : List Nd} (h : Tree L) (c : Nat) (hz : ∀ i : Nat, (itoa (nd L i).n).length ≤ 24) (hc : ∀ i : Nat, 24 + (nd L i).s.length + (nd L i).l.length ≤ c) (n : Nat) (i : Int) (h0 : 0 ≤ i) (hi : i < n) : (datX L n i).length ≤ (i.toNat + 1) * c := by
  have hs := h.sum (fun j => 24 + (nd L j).s.length + (nd L j).l.length) (fun j => (datX L (j + 1) (j : Int)).length) (fun j => dat_step h.ahead j (hz j)) i.toNat c (fun j _ => hc j)
  have e : ((i.toNat : Nat) : Int) = i := by omega
  rw [e] at hs
  rwa [dat_fuel h.ahead n (i.toNat + 1) i h0 hi (by omega)]
end Go.Proofs.YtomhkemdafiphaaGreatDoor.ShowP

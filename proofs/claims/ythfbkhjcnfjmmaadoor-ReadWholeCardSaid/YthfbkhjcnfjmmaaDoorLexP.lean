/- Layer 5 (lex) in plain lists: tokens of a text; no conditions. -/
import Derived.Lib.AtoiAll
import Derived.Lib.SlTrimSet
import Derived.Lib.IndexMore
import Derived.Lib.IndexBytes
import Derived.Lib.IndexLaws
namespace Go.Proofs.YthfbkhjcnfjmmaaDoor.LexP
open Go.Lib
/-- may a byte stand in a name? -/
def isLetter (c : UInt8) : Bool := (97 ≤ c && c ≤ 122) || (65 ≤ c && c ≤ 90) || (48 ≤ c && c ≤ 57) || [33, 36, 37, 38, 42, 43, 45, 47, 58, 60, 61, 62, 63, 94, 95, 126].contains c
def isBlank (c : UInt8) : Bool := c == 32 || c == 9 || c == 10
def isDigit (c : UInt8) : Bool := 48 ≤ c && c ≤ 57
/-- the word that a text begins with -/
def word (l : List UInt8) : List UInt8 := l.takeWhile isLetter
/-- what stands behind blanks and remarks; within a remark: behind its end -/
def pass : Bool → List UInt8 → List UInt8
  | _, [] => []
  | true, c :: r => if c == 10 then pass false r else pass true r
  | false, c :: r => if isBlank c then pass false r else if c == 59 then pass true r else c :: r
/-- is a word a number? -/
def numP (l : List UInt8) : Bool := (trimPrefix l [45]).all isDigit && !(trimPrefix l [45]).isEmpty
def magP (l : List UInt8) : Nat := l.foldl (fun a c => a * 10 + (c.toNat - 48)) 0
/-- the number of such a word -/
def valP (l : List UInt8) : Int := match l with
  | 45 :: r => -(magP r : Int)
  | l => magP l
/-- a token's kind, number and name; or what is wrong -/
def tokP (l : List UInt8) : Except Int (Int × Int × List UInt8) :=
  if numP l then (if 13 < l.length ∨ valP l ≤ -1099511627776 ∨ 1099511627776 ≤ valP l then .error 51 else .ok (4, valP l, []))
  else if 32 < l.length then .error 3 else .ok (6, 0, l)
/-- the token that a text begins with, and how many bytes it has -/
def firstP (l : List UInt8) : Except Int ((Int × Int × List UInt8) × Nat) := match l with
  | [] => .error 50
  | c :: r => if c == 40 then .ok ((1, 0, []), 1) else if c == 41 then .ok ((2, 0, []), 1) else if c == 39 then .ok ((3, 0, []), 1)
    else if c == 35 then (if word r = [116] then .ok ((5, 1, []), 2) else if word r = [102] then .ok ((5, 0, []), 2) else .error 50)
    else if word l = [] then .error 50 else match tokP (word l) with
      | .error e => .error e
      | .ok t => .ok (t, (word l).length)
structure Tok where
  kind : Int
  pos : Int
  n : Int
  s : List UInt8
  deriving DecidableEq
/-- the tokens of a text from a place on: or where it is wrong, and how -/
def lexN : Nat → Nat → List UInt8 → Except (Nat × Int) (List Tok)
  | 0, _, _ => .ok []
  | k + 1, i, l => match pass false l with
    | [] => .ok []
    | c :: r => match firstP (c :: r) with
      | .error e => .error (i + (l.length - (r.length + 1)), e)
      | .ok (t, n) => match lexN k (i + (l.length - (r.length + 1)) + n) ((c :: r).drop n) with
        | .error e => .error e
        | .ok ts => .ok (⟨t.1, ((i + (l.length - (r.length + 1)) : Nat) : Int), t.2.1, t.2.2⟩ :: ts)
def lexL (i : Nat) (l : List UInt8) : Except (Nat × Int) (List Tok) := lexN (l.length + 1) i l
/-- Lex -/
def lexF (l : List UInt8) : Except (Nat × Int) (List Tok) := if 4000 < l.length then .error (0, 3) else lexL 0 l

theorem pass_t (c : UInt8) (r : List UInt8) : pass true (c :: r) = if c == 10 then pass false r else pass true r := by conv => lhs; unfold pass
theorem pass_f (c : UInt8) (r : List UInt8) : pass false (c :: r) = if isBlank c then pass false r else if c == 59 then pass true r else c :: r := by conv => lhs; unfold pass
theorem pass_nil (b : Bool) : pass b [] = [] := by unfold pass; rfl
theorem pass_le : ∀ (b : Bool) (l : List UInt8), (pass b l).length ≤ l.length
  | _, [] => by simp [pass]
  | true, c :: r => by
    unfold pass; split
    · exact Nat.le_trans (pass_le false r) (by simp)
    · exact Nat.le_trans (pass_le true r) (by simp)
  | false, c :: r => by
    unfold pass; split
    · exact Nat.le_trans (pass_le false r) (by simp)
    · split
      · exact Nat.le_trans (pass_le true r) (by simp)
      · exact Nat.le_refl _
theorem pass_suffix : ∀ (b : Bool) (l : List UInt8), pass b l = l.drop (l.length - (pass b l).length)
  | _, [] => by simp [pass]
  | true, c :: r => by
    have h1 := pass_le false r; have h2 := pass_le true r
    unfold pass; split
    · rw [List.length_cons, show r.length + 1 - (pass false r).length = (r.length - (pass false r).length) + 1 from by omega, List.drop_succ_cons]; exact pass_suffix false r
    · rw [List.length_cons, show r.length + 1 - (pass true r).length = (r.length - (pass true r).length) + 1 from by omega, List.drop_succ_cons]; exact pass_suffix true r
  | false, c :: r => by
    have h1 := pass_le false r; have h2 := pass_le true r
    unfold pass; split
    · rw [List.length_cons, show r.length + 1 - (pass false r).length = (r.length - (pass false r).length) + 1 from by omega, List.drop_succ_cons]; exact pass_suffix false r
    · split
      · rw [List.length_cons, show r.length + 1 - (pass true r).length = (r.length - (pass true r).length) + 1 from by omega, List.drop_succ_cons]; exact pass_suffix true r
      · simp
theorem pass_head : ∀ (b : Bool) (l : List UInt8) (c : UInt8) (r : List UInt8), pass b l = c :: r → isBlank c = false ∧ (c == 59) = false
  | _, [], c, r, h => by simp [pass] at h
  | true, c :: r, c', r', h => by
    unfold pass at h; split at h
    · exact pass_head false r c' r' h
    · exact pass_head true r c' r' h
  | false, c :: r, c', r', h => by
    unfold pass at h; split at h
    · exact pass_head false r c' r' h
    · split at h
      · exact pass_head true r c' r' h
      · injection h with h1 h2; subst h1; constructor <;> simp_all
theorem pass_fix (c : UInt8) (r : List UInt8) (h1 : isBlank c = false) (h2 : (c == 59) = false) : pass false (c :: r) = c :: r := by
  unfold pass; rw [if_neg (by simp [h1]), if_neg (by simp [h2])]
/-- blanks ahead are passed over -/
def trimB (l : List UInt8) : List UInt8 := trimLeftS l [32, 9, 10]
theorem trimB_eq (l : List UInt8) : trimB l = l.dropWhile isBlank := by
  unfold trimB trimLeftS
  congr 1; funext c
  simp [isBlank, List.contains, List.elem]
  cases h1 : c == 32 <;> cases h2 : c == 9 <;> cases h3 : c == 10 <;> simp_all
theorem pass_trim (l : List UInt8) : pass false (trimB l) = pass false l := by
  rw [trimB_eq]
  induction l with
  | nil => rfl
  | cons c r ih =>
    rw [List.dropWhile_cons]
    split
    · rename_i h; rw [ih]; conv => rhs; unfold pass; rw [if_pos h]
    · rfl
/-- what stands behind the first newline -/
def nlP (l : List UInt8) : List UInt8 := (cut l [10]).2.1
theorem pass_nl (l : List UInt8) : pass true l = pass false (nlP l) := by
  unfold nlP cut
  rw [index_one]
  induction l with
  | nil => rfl
  | cons c r ih =>
    rw [pass_t]
    by_cases hc : c == 10
    · have hi : indexByte (c :: r) 10 = 0 := by unfold indexByte; rw [if_pos hc]
      rw [if_pos hc, hi]; simp
    · rw [if_neg hc, ih]
      have hg := indexByte_ge r 10
      by_cases h : indexByte r 10 = -1
      · have hi : indexByte (c :: r) 10 = -1 := by unfold indexByte; rw [if_neg hc, h]; rfl
        rw [hi, h]; rfl
      · have hi : indexByte (c :: r) 10 = indexByte r 10 + 1 := by conv => lhs; unfold indexByte
                                                                   rw [if_neg hc, if_neg (by simpa using h)]
        rw [hi, if_pos (by omega), if_pos (by omega)]
        simp only [List.length_singleton]
        congr 1
        obtain ⟨k, hk⟩ : ∃ k : Nat, indexByte r 10 = k := ⟨(indexByte r 10).toNat, by omega⟩
        rw [hk, show ((k : Int) + 1).toNat = k + 1 from by omega, show ((k : Int)).toNat = k from by omega, List.drop_succ_cons]
theorem nlP_le (l : List UInt8) : (nlP l).length ≤ l.length := by
  unfold nlP cut; split
  · simp
  · simp
theorem trimB_le (l : List UInt8) : (trimB l).length ≤ l.length := by
  rw [trimB_eq]
  exact (List.dropWhile_suffix isBlank).length_le
theorem trimB_head (l : List UInt8) (c : UInt8) (r : List UInt8) (h : trimB l = c :: r) : isBlank c = false := by
  rw [trimB_eq] at h
  have := List.head?_dropWhile_not isBlank l
  rw [h] at this
  simpa using this
/-- where a row stops being so -/
theorem tw_stop (p : UInt8 → Bool) : ∀ (l : List UInt8) (k : Nat), k ≤ l.length → (∀ i c, i < k → l[i]? = some c → p c = true) → (∀ c, l[k]? = some c → p c = false) → (l.takeWhile p).length = k
  | [], k, h, _, _ => by simp at h; simp [h]
  | x :: l, 0, _, _, h2 => by rw [List.takeWhile_cons, if_neg (by simpa using h2 x (by simp))]; rfl
  | x :: l, k + 1, h, h1, h2 => by
    rw [List.takeWhile_cons, if_pos (by simpa using h1 0 x (by omega) (by simp)), List.length_cons, tw_stop p l k (by simpa using h) (fun i c hi hc => h1 (i + 1) c (by omega) (by simpa using hc)) (fun c hc => h2 c (by simpa using hc))]
theorem tw_take (p : UInt8 → Bool) (l : List UInt8) : l.take (l.takeWhile p).length = l.takeWhile p := by
  induction l with
  | nil => rfl
  | cons x l ih =>
    rw [List.takeWhile_cons]; split
    · simp [ih]
    · simp
theorem trimPre (c : UInt8) (r : List UInt8) : trimPrefix (c :: r) [45] = if c == 45 then r else c :: r := by
  unfold trimPrefix hasPrefix
  by_cases h : c == 45
  · have : c = 45 := by simpa using h
    subst this; simp
  · have : ¬ (45 : UInt8) = c := fun e => h (by simp [e])
    simp [h, this]
theorem parse_dig : ∀ (l : List UInt8) (a : Nat), l.all isDigit = true → a * 10 ^ l.length + 10 ^ l.length ≤ 10 ^ 13 → parseUint10 a l = .ok (l.foldl (fun a c => a * 10 + (c.toNat - 48)) a) ∧ l.foldl (fun a c => a * 10 + (c.toNat - 48)) a < a * 10 ^ l.length + 10 ^ l.length
  | [], a, _, _ => by simp [parseUint10]
  | c :: r, a, h, hb => by
    simp only [List.all_cons, Bool.and_eq_true] at h
    have hd : 48 ≤ c.toNat ∧ c.toNat ≤ 57 := by
      have := h.1; simp only [isDigit, Bool.and_eq_true, decide_eq_true_eq, UInt8.le_iff_toNat_le] at this; simpa using this
    have hp : 1 ≤ 10 ^ r.length := Nat.one_le_pow _ _ (by omega)
    simp only [List.length_cons, Nat.pow_succ] at hb
    have e1 : a * (10 ^ r.length * 10) = a * 10 * 10 ^ r.length := by rw [Nat.mul_comm (10 ^ r.length), Nat.mul_assoc]
    have e2 : (a * 10 + (c.toNat - 48)) * 10 ^ r.length ≤ a * 10 * 10 ^ r.length + 9 * 10 ^ r.length := by
      rw [← Nat.add_mul]; exact Nat.mul_le_mul_right _ (by omega)
    have hle : a * 10 ≤ a * 10 * 10 ^ r.length := Nat.le_mul_of_pos_right _ (by omega)
    have ih := parse_dig r (a * 10 + (c.toNat - 48)) h.2 (by omega)
    unfold parseUint10
    rw [if_pos hd, if_neg (by omega), if_neg (by omega), List.foldl_cons]
    refine ⟨ih.1, ?_⟩
    have := ih.2
    simp only [List.length_cons, Nat.pow_succ]
    omega
theorem parse_nosyn : ∀ (l : List UInt8) (a : Nat), l.all isDigit = true → parseUint10 a l ≠ .syntax
  | [], a, _ => by simp [parseUint10]
  | c :: r, a, h => by
    simp only [List.all_cons, Bool.and_eq_true] at h
    have hd : 48 ≤ c.toNat ∧ c.toNat ≤ 57 := by
      have := h.1; simp only [isDigit, Bool.and_eq_true, decide_eq_true_eq, UInt8.le_iff_toNat_le] at this; simpa using this
    unfold parseUint10
    rw [if_pos hd]
    split
    · simp
    · split
      · simp
      · exact parse_nosyn r _ h.2
end Go.Proofs.YthfbkhjcnfjmmaaDoor.LexP

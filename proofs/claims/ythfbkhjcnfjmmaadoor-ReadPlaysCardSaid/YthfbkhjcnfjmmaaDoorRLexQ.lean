import Derived.Test.YthfbkhjcnfjmmaaDoorPLexsx2
import Derived.Test.YthfbkhjcnfjmmaaDoorLexP2
import Derived.Test.YthfbkhjcnfjmmaaDoorLexC5
namespace Go.Proofs.YthfbkhjcnfjmmaaDoor.Pure
open Go Go.RowKit Go.Proofs.YthfbkhjcnfjmmaaDoor.PLexs Go.Proofs.YthfbkhjcnfjmmaaDoor.LexP Go.Proofs.YthfbkhjcnfjmmaaDoorW.PrintWords Go.Proofs.YthfbkhjcnfjmmaaDoorW.PrintLast
theorem bt_byte (s : ByteArray) (i : Nat) (h : i < s.size) : bt s i = (((s.data.toList[i]'(by rw [← Lib.size_eq]; exact h)).toNat : Nat) : Int) := by
  have h2 := Lib.data_getElem? s i h
  have h3 : s.data.toList[i]'(by rw [← Lib.size_eq]; exact h) = s[i]'h := by
    rw [List.getElem?_eq_getElem (by rw [← Lib.size_eq]; exact h)] at h2; exact Option.some.inj h2
  rw [h3]
  unfold bt
  rw [dif_pos (by simpa using h)]
  rfl
theorem b_letter (s : ByteArray) (i : Nat) (h : i < s.size) : eddywheelref05_letter.f (bt s i) = some (isLetter (s.data.toList[i]'(by rw [← Lib.size_eq]; exact h))) := by
  unfold eddywheelref05_letter.f
  rw [bt_byte s i h]
  generalize s.data.toList[i]'(by rw [← Lib.size_eq]; exact h) = c
  have hc := c.toNat_lt
  rw [if_pos (by omega)]
  congr 2
  simp
theorem word_l0 (s : ByteArray) (hs : s.size < 4294967296) (i0 : Nat) : ∀ (d i k : Nat), i0 ≤ i → d + i = s.size → d < k →
    eddywheelref05_word.l0 k s i0 i = some (s.extract i0 (i + (word (s.data.toList.drop i)).length))
  | _, _, 0, _, _, h => by omega
  | 0, i, k + 1, h0, hd, _ => by
    unfold eddywheelref05_word.l0
    rw [if_neg (by omega), if_pos (by omega), if_pos (by omega), if_pos (by omega)]
    rw [List.drop_eq_nil_iff.2 (by rw [← Lib.size_eq]; omega)]
    simp [word]
  | d + 1, i, k + 1, h0, hd, hk => by
    have hi : i < s.size := by omega
    have hil : i < s.data.toList.length := by rw [← Lib.size_eq]; exact hi
    unfold eddywheelref05_word.l0
    rw [if_pos (by omega), if_pos (by omega), b_letter s i hi, Option.bind_some, List.drop_eq_getElem_cons hil, word, List.takeWhile_cons]
    cases hl : isLetter (s.data.toList[i]'hil) with
    | true =>
      rw [if_pos rfl, show wrap64 ((i : Int) + 1) = ((i + 1 : Nat) : Int) from by simp only [wrap64]; omega, word_l0 s hs i0 d (i + 1) k (by omega) (by omega) (by omega)]
      simp only [if_true, List.length_cons, word]
      rw [show i + 1 + (List.takeWhile isLetter (List.drop (i + 1) s.data.toList)).length = i + ((List.takeWhile isLetter (List.drop (i + 1) s.data.toList)).length + 1) from by omega]
    | false =>
      rw [if_neg (by simp), if_pos (by omega), if_pos (by omega), if_pos (by omega)]
      simp
theorem b_word (s : ByteArray) (i k : Nat) (hs : s.size < 4294967296) (hi : i ≤ s.size) (hk : s.size < k) : eddywheelref05_word.f k s i = some (s.extract i (i + (word (s.data.toList.drop i)).length)) :=
  word_l0 s hs i (s.size - i) i k (Nat.le_refl _) (by omega) (by omega)
open Go Go.RowKit Go.Proofs.YthfbkhjcnfjmmaaDoor.PLexs Go.Proofs.YthfbkhjcnfjmmaaDoor.LexP Go.Proofs.YthfbkhjcnfjmmaaDoorW.PrintWords Go.Proofs.YthfbkhjcnfjmmaaDoorW.PrintLast
theorem number_l0 (s : ByteArray) (hs : s.size < 4294967296) : ∀ (d i k : Nat), d + i = s.size → d < k →
    eddywheelref05_number.l0 k s i = some ((s.data.toList.drop i).all isDigit && decide (0 < s.size))
  | _, _, 0, _, h => by omega
  | 0, i, k + 1, hd, _ => by
    unfold eddywheelref05_number.l0
    rw [if_neg (by omega), List.drop_eq_nil_iff.2 (by rw [← Lib.size_eq]; omega)]
    simp
  | d + 1, i, k + 1, hd, hk => by
    have hi : i < s.size := by omega
    have hil : i < s.data.toList.length := by rw [← Lib.size_eq]; exact hi
    unfold eddywheelref05_number.l0
    rw [if_pos (by omega), if_pos (by omega), List.drop_eq_getElem_cons hil, List.all_cons, bt_byte s i hi]
    generalize s.data.toList[i]'hil = c
    have hdg := Go.Proofs.YthfbkhjcnfjmmaaDoor.LexC.isDigit_iff c
    by_cases h1 : c.toNat < 48
    · rw [if_pos (by omega), show isDigit c = false from by rw [Bool.eq_false_iff, Ne, hdg]; omega]; rfl
    · rw [if_neg (by omega)]
      by_cases h2 : 57 < c.toNat
      · rw [if_pos (by omega), show isDigit c = false from by rw [Bool.eq_false_iff, Ne, hdg]; omega]; rfl
      · rw [if_neg (by omega), show isDigit c = true from hdg.2 (by omega), Bool.true_and, show wrap64 ((i : Int) + 1) = ((i + 1 : Nat) : Int) from by simp only [wrap64]; omega]
        exact number_l0 s hs d (i + 1) k (by omega) (by omega)
theorem b_number (s : ByteArray) (c : UInt8) (r : List UInt8) (k : Nat) (hl : s.data.toList = c :: r) (hs : s.size < 4294967296) (hk : s.size + 1 < k) : eddywheelref05_number.f k s = some (numP (c :: r)) := by
  have h0 : 0 < s.size := by rw [Lib.size_eq, hl]; simp
  obtain ⟨k, rfl⟩ : ∃ j, k = j + 1 := ⟨k - 1, by omega⟩
  unfold eddywheelref05_number.f
  have hb := bt_byte s 0 h0
  rw [show s.data.toList[0]'(by rw [← Lib.size_eq]; exact h0) = c from by simp [hl]] at hb
  rw [if_pos (by omega), show bt s 0 = _ from hb, Go.Proofs.YthfbkhjcnfjmmaaDoor.LexC.numP_cons]
  by_cases hc : c == 45
  · have hc2 : c = 45 := by simpa using hc
    have hx : (s.extract 1 s.size).data.toList = r := by rw [Go.Proofs.YthfbkhjcnfjmmaaDoor.LexC.ext_list, hl]; simp [Lib.size_eq, hl]
    have hxs : (s.extract 1 s.size).size = r.length := by rw [Lib.size_eq, hx]
    have hz : s.size = r.length + 1 := by rw [Lib.size_eq, hl]; rfl
    rw [if_pos (by rw [hc2]; rfl), if_pos (by omega), if_pos hc]
    show eddywheelref05_number.l0 k (s.extract 1 s.size) ((0 : Nat) : Int) = _
    have := number_l0 (s.extract 1 s.size) (by omega) (s.extract 1 s.size).size 0 k (by omega) (by omega)
    rw [hx, List.drop_zero, hxs] at this
    rw [this]
    cases r <;> simp
  · have hc2 : ¬ c.toNat = 45 := fun h => hc (by rw [show c = 45 from UInt8.toNat_inj.1 h]; rfl)
    rw [if_neg (by omega), if_neg hc]
    show eddywheelref05_number.l0 k s ((0 : Nat) : Int) = _
    have := number_l0 s hs s.size 0 k (by omega) (by omega)
    rw [hl, List.drop_zero, decide_eq_true h0, Bool.and_true] at this
    exact this
open Go Go.RowKit Go.Proofs.YthfbkhjcnfjmmaaDoor.PLexs Go.Proofs.YthfbkhjcnfjmmaaDoor.LexP Go.Proofs.YthfbkhjcnfjmmaaDoorW.PrintWords Go.Proofs.YthfbkhjcnfjmmaaDoorW.PrintLast
theorem w64 (x : Int) (h1 : -9223372036854775808 ≤ x) (h2 : x < 9223372036854775808) : wrap64 x = x := by unfold wrap64; omega
theorem step_val (a c : Nat) (h1 : 48 ≤ c) (h2 : c ≤ 57) (ha : a * 10 + (c - 48) < 10000000000000000) : wrap64 (wrap64 ((a : Int) * 10) + ((c : Int) - 48) % 256) = ((a * 10 + (c - 48) : Nat) : Int) := by
  have e1 : ((c : Int) - 48) % 256 = (c : Int) - 48 := Int.emod_eq_of_lt (by omega) (by omega)
  rw [e1, w64 ((a : Int) * 10) (by omega) (by omega), w64 _ (by omega) (by omega)]
  omega
theorem value_l0 (s : ByteArray) (hs : s.size ≤ 14) : ∀ (d i k : Nat) (a : Nat), d + i = s.size → d < k → (s.data.toList.drop i).all isDigit = true → a * 10 ^ d + 10 ^ d ≤ 1000000000000000 →
    eddywheelref05_value.l0 k s a i = some (((s.data.toList.drop i).foldl (fun a c => a * 10 + (c.toNat - 48)) a : Nat) : Int)
  | _, _, 0, _, _, h, _, _ => by omega
  | 0, i, k + 1, a, hd, _, _, _ => by
    unfold eddywheelref05_value.l0
    rw [if_neg (by omega), List.drop_eq_nil_iff.2 (by rw [← Lib.size_eq]; omega)]
    rfl
  | d + 1, i, k + 1, a, hd, hk, hall, hb => by
    have hi : i < s.size := by omega
    have hil : i < s.data.toList.length := by rw [← Lib.size_eq]; exact hi
    unfold eddywheelref05_value.l0
    rw [List.drop_eq_getElem_cons hil, List.all_cons, Bool.and_eq_true] at hall
    rw [if_pos (by omega), if_pos (by omega), List.drop_eq_getElem_cons hil, List.foldl_cons, bt_byte s i hi]
    obtain ⟨h1, h2⟩ := hall
    rw [Go.Proofs.YthfbkhjcnfjmmaaDoor.LexC.isDigit_iff] at h1
    generalize s.data.toList[i]'hil = c at h1 ⊢
    clear hil
    have hp : 1 ≤ 10 ^ d := Nat.one_le_pow _ _ (by omega)
    simp only [Nat.pow_succ] at hb
    have e1 : a * (10 ^ d * 10) = a * 10 * 10 ^ d := by rw [Nat.mul_comm (10 ^ d), Nat.mul_assoc]
    have e2 : (a * 10 + (c.toNat - 48)) * 10 ^ d ≤ a * 10 * 10 ^ d + 9 * 10 ^ d := by
      rw [← Nat.add_mul]; exact Nat.mul_le_mul_right _ (by omega)
    have hle : a * 10 ≤ a * 10 * 10 ^ d := Nat.le_mul_of_pos_right _ (by omega)
    have ha : a * 10 + (c.toNat - 48) < 10000000000000000 := by
      generalize 10 ^ d = P at *
      omega
    have hq : (a * 10 + (c.toNat - 48)) * 10 ^ d + 10 ^ d ≤ 1000000000000000 := by
      generalize 10 ^ d = P at *
      omega
    clear hb e1 e2 hle hp
    have ea : wrap64 (wrap64 ((a : Int) * 10) + (((c.toNat : Nat) : Int) - 48) % 256) = ((a * 10 + (c.toNat - 48) : Nat) : Int) := step_val a c.toNat h1.1 h1.2 ha
    rw [ea, show wrap64 ((i : Int) + 1) = ((i + 1 : Nat) : Int) from by rw [w64 _ (by omega) (by omega)]; rfl]
    exact value_l0 s hs d (i + 1) k _ (by omega) (by omega) h2 hq
open Go Go.RowKit Go.Proofs.YthfbkhjcnfjmmaaDoor.PLexs Go.Proofs.YthfbkhjcnfjmmaaDoor.LexP Go.Proofs.YthfbkhjcnfjmmaaDoorW.PrintWords Go.Proofs.YthfbkhjcnfjmmaaDoorW.PrintLast
theorem ba_eq (s : ByteArray) (l : List UInt8) (h : s.data.toList = l) : s = ⟨l.toArray⟩ := by
  cases s; subst h; simp
theorem b_value (s : ByteArray) (c : UInt8) (r : List UInt8) (k : Nat) (hl : s.data.toList = c :: r) (hs : s.size ≤ 14) (hn : numP (c :: r) = true) (hk : s.size + 2 < k) : eddywheelref05_value.f k s = some (valP (c :: r)) := by
  have hz : s.size = r.length + 1 := by rw [Lib.size_eq, hl]; rfl
  have h0 : 0 < s.size := by omega
  have hb := bt_byte s 0 h0
  rw [show s.data.toList[0]'(by rw [← Lib.size_eq]; exact h0) = c from by simp [hl]] at hb
  have plain : ∀ (s : ByteArray) (c : UInt8) (r : List UInt8) (k : Nat), s.data.toList = c :: r → s.size ≤ 14 → (c :: r).all isDigit = true → s.size + 1 < k → eddywheelref05_value.f k s = some ((magP (c :: r) : Nat) : Int) := by
    intro s c r k hl hs ha hk
    have h0 : 0 < s.size := by rw [Lib.size_eq, hl]; simp
    have hb := bt_byte s 0 h0
    rw [show s.data.toList[0]'(by rw [← Lib.size_eq]; exact h0) = c from by simp [hl]] at hb
    obtain ⟨k, rfl⟩ : ∃ j, k = j + 1 := ⟨k - 1, by omega⟩
    have hc : isDigit c = true := by rw [List.all_cons, Bool.and_eq_true] at ha; exact ha.1
    rw [Go.Proofs.YthfbkhjcnfjmmaaDoor.LexC.isDigit_iff] at hc
    unfold eddywheelref05_value.f
    rw [if_pos (by omega), show bt s 0 = _ from hb, if_neg (by omega)]
    have hp : 10 ^ s.size ≤ 10 ^ 14 := Nat.pow_le_pow_right (by omega) hs
    have := value_l0 s hs s.size 0 k 0 (by omega) (by omega) (by rw [List.drop_zero, hl]; exact ha) (by omega)
    rw [List.drop_zero, hl] at this
    exact this
  rw [Go.Proofs.YthfbkhjcnfjmmaaDoor.LexC.numP_cons] at hn
  by_cases hc : c == 45
  · have hc2 : c = 45 := by simpa using hc
    rw [if_pos hc] at hn
    have hx : (s.extract 1 s.size).data.toList = r := by rw [Go.Proofs.YthfbkhjcnfjmmaaDoor.LexC.ext_list, hl]; simp [Lib.size_eq, hl]
    obtain ⟨k, rfl⟩ : ∃ j, k = j + 1 := ⟨k - 1, by omega⟩
    unfold eddywheelref05_value.f
    rw [if_pos (by omega), show bt s 0 = _ from hb, if_pos (by rw [hc2]; rfl), if_pos (by omega)]
    cases r with
    | nil => simp at hn
    | cons c' r' =>
      simp only [List.length_cons] at hz
      have hxs : (s.extract 1 s.size).size = r'.length + 1 := by rw [Lib.size_eq, hx]; rfl
      have ha : (c' :: r').all isDigit = true := by
        rw [Bool.and_eq_true] at hn; exact hn.1
      rw [plain _ c' r' k hx (by omega) ha (by omega), Option.bind_some]
      have hm : magP (c' :: r') < 10000000000000000 := by
        have h1 : 10 ^ (c' :: r').length ≤ 10 ^ 13 := Nat.pow_le_pow_right (by omega) (by rw [← hx, ← Lib.size_eq]; omega)
        have := (parse_dig (c' :: r') 0 ha (by omega)).2
        unfold magP
        omega
      subst hc2
      show some (wrap64 (-((magP (c' :: r') : Nat) : Int))) = some (-(magP (c' :: r') : Int))
      rw [w64 _ (by omega) (by omega)]
  · rw [if_neg hc] at hn
    rw [plain s c r k hl hs hn (by omega)]
    unfold valP
    split
    · rename_i h; injection h with h1 _; subst h1; exact absurd rfl hc
    · rfl
/-- what the reference tells of a word -/
def oneB (i : Int) : Except Int (Int × Int × List UInt8) → Int × Int × Int × ByteArray × Int
  | .error e => (0, 0, 0, ⟨#[]⟩, e)
  | .ok t => (t.1, i, t.2.1, ⟨t.2.2.toArray⟩, 0)
theorem b_one (s : ByteArray) (c : UInt8) (r : List UInt8) (i : Int) (k : Nat) (hl : s.data.toList = c :: r) (hs : s.size < 4294967296) (hk : s.size + 2 < k) : eddywheelref05_one.f k s i = some (oneB i (tokP (c :: r))) := by
  have hz : s.size = (c :: r).length := by rw [Lib.size_eq, hl]
  unfold eddywheelref05_one.f tokP
  rw [b_number s c r k hl hs (by omega), Option.bind_some]
  by_cases hn : numP (c :: r) = true
  · rw [if_pos hn, if_pos hn]
    by_cases h14 : 14 < s.size
    · rw [if_pos (by omega), if_pos (.inl (by omega))]; rfl
    · rw [if_neg (by omega), b_value s c r k hl (by omega) hn hk, Option.bind_some]
      by_cases h13 : 13 < s.size
      · rw [if_pos (by omega), if_pos (.inl (by omega))]; rfl
      · rw [if_neg (by omega)]
        by_cases h1 : valP (c :: r) ≤ -1099511627776
        · rw [if_pos h1, if_pos (.inr (.inl h1))]; rfl
        · rw [if_neg h1]
          by_cases h2 : 1099511627776 ≤ valP (c :: r)
          · rw [if_pos h2, if_pos (.inr (.inr h2))]; rfl
          · rw [if_neg h2, if_neg (by omega)]; rfl
  · rw [if_neg hn, if_neg hn]
    by_cases h32 : 32 < s.size
    · rw [if_pos (by omega), if_pos (by omega)]; rfl
    · rw [if_neg (by omega), if_neg (by omega)]
      show some (6, i, 0, s, 0) = some (6, i, 0, ⟨(c :: r).toArray⟩, 0)
      rw [← ba_eq s (c :: r) hl]
open Go Go.RowKit Go.Proofs.YthfbkhjcnfjmmaaDoor.PLexs Go.Proofs.YthfbkhjcnfjmmaaDoor.LexP Go.Proofs.YthfbkhjcnfjmmaaDoorW.PrintWords Go.Proofs.YthfbkhjcnfjmmaaDoorW.PrintLast
def toS (t : Go.Proofs.YthfbkhjcnfjmmaaDoor.LexP.Tok) : S48 := ⟨t.kind, t.pos, t.n, ⟨t.s.toArray⟩⟩
theorem tokC_eq (t : Go.Proofs.YthfbkhjcnfjmmaaDoor.LexP.Tok) : Go.Proofs.YthfbkhjcnfjmmaaDoor.LexC.tokC t = [.int .u8 (toS t).f0, .int .i64 (toS t).f1, .int .i64 (toS t).f2, .string (toS t).f3] := rfl
/-- tokens, or what is wrong, as they are told -/
def outB (acc : List S48) : Except (Nat × Int) (List Tok) → List S48 × Int × Int
  | .error (j, e) => ([], (j : Int), e)
  | .ok ts => (acc ++ ts.map toS, 0, 0)
/-- tokens from a place on, in a remark or not -/
def from_ (b : Bool) (i : Nat) (l : List UInt8) : Except (Nat × Int) (List Tok) := lexL (i + (l.length - (pass b l).length)) (pass b l)
theorem from_f (i : Nat) (l : List UInt8) : from_ false i l = lexL i l := (lexL_pass i l).symm
theorem from_step (b b' : Bool) (i : Nat) (c : UInt8) (r : List UInt8) (h : pass b (c :: r) = pass b' r) : from_ b i (c :: r) = from_ b' (i + 1) r := by
  unfold from_
  have := pass_le b' r
  rw [h, List.length_cons, show i + (r.length + 1 - (pass b' r).length) = i + 1 + (r.length - (pass b' r).length) from by omega]
theorem from_nl (i : Nat) (r : List UInt8) : from_ true i (10 :: r) = from_ false i (10 :: r) := by
  rw [from_step true false i 10 r (by rw [pass_t]; rfl), from_step false false i 10 r (by rw [pass_f]; rfl)]
theorem i1 (i n : Nat) (h : i + n < 4294967296 * 2) : wrap64 ((i : Int) + (n : Int)) = ((i + n : Nat) : Int) := by rw [w64 _ (by omega) (by omega)]; omega
theorem at_drop {s : ByteArray} {i : Nat} {c : UInt8} {r : List UInt8} (h : s.data.toList.drop i = c :: r) : i < s.size ∧ bt s i = ((c.toNat : Nat) : Int) ∧ s.data.toList.drop (i + 1) = r ∧ r.length + 1 = s.size - i := by
  have hi : i < s.data.toList.length := by
    by_cases hh : i < s.data.toList.length
    · exact hh
    · rw [List.drop_eq_nil_iff.2 (by omega)] at h; cases h
  have hi2 : i < s.size := by rw [Lib.size_eq]; exact hi
  have e := List.drop_eq_getElem_cons hi
  rw [h] at e
  injection e with e1 e2
  refine ⟨hi2, ?_, e2.symm, ?_⟩
  · rw [bt_byte s i hi2, ← e1]
  · have := congrArg List.length h
    rw [List.length_drop, ← Lib.size_eq, List.length_cons] at this
    omega
theorem lex_j1_rem (s : ByteArray) (acc : List S48) (i : Int) (k : Nat) : eddywheelref05_Lex.j1 (k + 1) s acc i 59 false = eddywheelref05_Lex.l1 k s acc i := by
  conv => lhs; unfold eddywheelref05_Lex.j1
  rw [if_neg (by simp), if_pos rfl]
theorem lex_l0_at (s : ByteArray) (acc : List S48) (i k : Nat) (c : UInt8) (hi : i < s.size) (hb : bt s i = ((c.toNat : Nat) : Int)) : eddywheelref05_Lex.l0 (k + 1) s acc i = eddywheelref05_Lex.j1 k s acc i ((c.toNat : Nat) : Int) (isBlank c) := by
  conv => lhs; unfold eddywheelref05_Lex.l0
  rw [if_pos (by omega), if_pos (by omega), hb]
  have h0 : isBlank c = (c == 32 || c == 9 || c == 10) := rfl
  by_cases h1 : c = 32
  · subst h1; rw [if_pos (show (((32 : UInt8).toNat : Nat) : Int) = 32 from rfl)]; rfl
  · have n1 : c.toNat ≠ 32 := fun h => h1 (UInt8.toNat_inj.1 h)
    rw [if_neg (by omega)]
    by_cases h2 : c = 9
    · subst h2; rw [if_pos (show (((9 : UInt8).toNat : Nat) : Int) = 9 from rfl)]; rfl
    · have n2 : c.toNat ≠ 9 := fun h => h2 (UInt8.toNat_inj.1 h)
      rw [if_neg (by omega)]
      congr 1
      rw [h0, show (c == 32) = false from by simpa using h1, show (c == 9) = false from by simpa using h2, Bool.false_or, Bool.false_or]
      by_cases h3 : c = 10
      · subst h3; rfl
      · have n3 : c.toNat ≠ 10 := fun h => h3 (UInt8.toNat_inj.1 h)
        rw [show (c == 10) = false from by simpa using h3]
        simpa using (by omega : ¬ (c.toNat : Int) = 10)
theorem mark_at (c : UInt8) : eddywheelref05_mark.f ((c.toNat : Nat) : Int) = some (if c == 40 then 1 else if c == 41 then 2 else if c == 39 then 3 else 0) := by
  unfold eddywheelref05_mark.f
  by_cases h1 : c = 40
  · subst h1; rfl
  by_cases h2 : c = 41
  · subst h2; rfl
  by_cases h3 : c = 39
  · subst h3; rfl
  have n1 : c.toNat ≠ 40 := fun h => h1 (UInt8.toNat_inj.1 h)
  have n2 : c.toNat ≠ 41 := fun h => h2 (UInt8.toNat_inj.1 h)
  have n3 : c.toNat ≠ 39 := fun h => h3 (UInt8.toNat_inj.1 h)
  rw [if_neg (by omega), if_neg (by omega), if_neg (by omega), if_neg (by simpa using h1), if_neg (by simpa using h2), if_neg (by simpa using h3)]
theorem letter_at (c : UInt8) : eddywheelref05_letter.f ((c.toNat : Nat) : Int) = some (isLetter c) := by
  unfold eddywheelref05_letter.f
  have hc := c.toNat_lt
  rw [if_pos (by omega)]
  congr 2
  simp
theorem word_list (s : ByteArray) (i : Nat) : (s.extract i (i + (word (s.data.toList.drop i)).length)).data.toList = word (s.data.toList.drop i) := by
  rw [Go.Proofs.YthfbkhjcnfjmmaaDoor.LexC.ext_list, show i + (word (s.data.toList.drop i)).length - i = (word (s.data.toList.drop i)).length from by omega]
  exact tw_take isLetter _
theorem outB_tok (acc : List S48) (t : Tok) (x : Except (Nat × Int) (List Tok)) : outB (acc ++ [toS t]) x = outB acc (match x with | .error e => .error e | .ok ts => .ok (t :: ts)) := by
  cases x with
  | error e => rfl
  | ok ts => simp [outB]
theorem ba_tl (s : ByteArray) : s.toList = s.data.toList := by
  obtain ⟨⟨l⟩⟩ := s
  exact ByteArray.toList_mk l
theorem lex_tok (s : ByteArray) (hs : s.size ≤ 4000) (i k : Nat) (acc : List S48) (c : UInt8) (r : List UInt8) (hd : s.data.toList.drop i = c :: r) (hb : isBlank c = false) (h59 : (c == 59) = false) (hacc : acc.length ≤ i) (hk : s.size + 5 < k)
    (rec : ∀ (n : Nat) (t : Tok), 1 ≤ n → n ≤ r.length + 1 → eddywheelref05_Lex.l0 (k - 1) s (acc ++ [toS t]) ((i + n : Nat) : Int) = some (outB (acc ++ [toS t]) (lexL (i + n) (s.data.toList.drop (i + n)))))
    (rec2 : ∀ (n : Nat) (t : Tok), 1 ≤ n → n ≤ r.length + 1 → eddywheelref05_Lex.l0 (k - 2) s (acc ++ [toS t]) ((i + n : Nat) : Int) = some (outB (acc ++ [toS t]) (lexL (i + n) (s.data.toList.drop (i + n))))) :
    eddywheelref05_Lex.j1 k s acc i ((c.toNat : Nat) : Int) false = some (outB acc (lexL i (c :: r))) := by
  obtain ⟨k, rfl⟩ : ∃ j, k = j + 1 := ⟨k - 1, by omega⟩
  rw [Nat.add_sub_cancel] at rec
  rw [show k + 1 - 2 = k - 1 from rfl] at rec2
  obtain ⟨hi, _, hr, hrl⟩ := at_drop hd
  have n59 : c.toNat ≠ 59 := fun h => by rw [show c = 59 from UInt8.toNat_inj.1 h] at h59; cases h59
  unfold eddywheelref05_Lex.j1
  rw [if_neg (by simp), if_neg (by omega), mark_at, Option.bind_some, lexL_tok i c r (pass_fix c r hb h59), firstP_eq]
  have one : ∀ (kd : Int), (if acc.length < 3518437208883 then eddywheelref05_Lex.l0 k s (acc ++ [(⟨kd, (i : Int), 0, (⟨#[]⟩ : ByteArray)⟩ : S48)]) (wrap64 ((i : Int) + 1)) else none) = some (outB acc (match (lexL (i + 1) ((c :: r).drop 1)) with | .error e => .error e | .ok ts => .ok (⟨kd, (i : Int), 0, []⟩ :: ts))) := by
    intro kd
    rw [if_pos (by omega), show (wrap64 ((i : Int) + 1)) = ((i + 1 : Nat) : Int) from i1 i 1 (by omega)]
    have := rec 1 ⟨kd, (i : Int), 0, []⟩ (by omega) (by omega)
    rw [show (toS ⟨kd, (i : Int), 0, []⟩) = (⟨kd, (i : Int), 0, (⟨#[]⟩ : ByteArray)⟩ : S48) from rfl] at this
    rw [this, hr, List.drop_one, List.tail_cons, show (⟨kd, (i : Int), 0, (⟨#[]⟩ : ByteArray)⟩ : S48) = toS ⟨kd, (i : Int), 0, []⟩ from rfl, outB_tok]
  by_cases h40 : (c == 40) = true
  · rw [if_pos h40, if_neg (by decide), if_pos h40]
    exact one 1
  rw [if_neg h40, if_neg h40]
  by_cases h41 : (c == 41) = true
  · rw [if_pos h41, if_neg (by decide), if_pos h41]
    exact one 2
  rw [if_neg h41, if_neg h41]
  by_cases h39 : (c == 39) = true
  · rw [if_pos h39, if_neg (by decide), if_pos h39]
    exact one 3
  rw [if_neg h39, if_neg h39, if_pos rfl]
  by_cases h35 : (c == 35) = true
  · have e35 : c = 35 := by simpa using h35
    rw [if_pos h35, if_pos (by rw [e35]; rfl), show wrap64 ((i : Int) + 1) = ((i + 1 : Nat) : Int) from i1 i 1 (by omega), b_word s (i + 1) k (by omega) (by omega) (by omega), Option.bind_some]
    have hwl := word_list s (i + 1)
    generalize s.extract (i + 1) (i + 1 + (word (s.data.toList.drop (i + 1))).length) = W at hwl
    rw [hr] at hwl
    obtain ⟨k, rfl⟩ : ∃ j, k = j + 1 := ⟨k - 1, by omega⟩
    have hwr := word_le r
    have two : ∀ (n : Int), 1 ≤ r.length → (if acc.length < 3518437208883 then eddywheelref05_Lex.l0 k s (acc ++ [(⟨5, (i : Int), n, (⟨#[]⟩ : ByteArray)⟩ : S48)]) (wrap64 ((i : Int) + 2)) else none) = some (outB acc (match (lexL (i + 2) ((c :: r).drop 2)) with | .error e => .error e | .ok ts => .ok (⟨5, (i : Int), n, []⟩ :: ts))) := by
      intro n h1
      rw [if_pos (by omega), show (wrap64 ((i : Int) + 2)) = ((i + 2 : Nat) : Int) from i1 i 2 (by omega)]
      have := rec2 2 ⟨5, (i : Int), n, []⟩ (by omega) (by omega)
      rw [show k + 1 - 1 = k from rfl] at this
      rw [show (⟨5, (i : Int), n, (⟨#[]⟩ : ByteArray)⟩ : S48) = toS ⟨5, (i : Int), n, []⟩ from rfl, this, outB_tok, ← hd, List.drop_drop]
    rw [ba_tl, hwl]
    unfold eddywheelref05_Lex.j3
    by_cases hT : word r = [116]
    · rw [if_pos hT, if_pos hT, if_neg (by simp), ba_tl, hwl, if_pos hT]
      exact two 1 (by rw [hT] at hwr; simpa using hwr)
    · rw [if_neg hT, if_neg hT]
      by_cases hF : word r = [102]
      · rw [if_pos hF, if_neg (by rw [hF]; simp), ba_tl, hwl, if_neg hT]
        exact two 0 (by rw [hF] at hwr; simpa using hwr)
      · rw [if_neg hF, if_pos (by simpa using hF)]
        rfl
  · have n35 : c.toNat ≠ 35 := fun h => by rw [show c = 35 from UInt8.toNat_inj.1 h] at h35; exact h35 rfl
    rw [if_neg h35, if_neg (by omega), letter_at, Option.bind_some]
    have hw : word (c :: r) = if isLetter c then c :: word r else [] := by
      unfold word; rw [List.takeWhile_cons]
    cases hl : isLetter c with
    | false =>
      rw [hl, if_neg (by simp)] at hw
      rw [if_neg (by simp), hw, if_pos rfl]
      rfl
    | true =>
      rw [hl, if_pos rfl] at hw
      rw [if_pos rfl, b_word s i k (by omega) (by omega) (by omega), Option.bind_some]
      have hwl := word_list s i
      generalize s.extract i (i + (word (s.data.toList.drop i)).length) = W at hwl
      have hwz : W.size = (word (s.data.toList.drop i)).length := by rw [Lib.size_eq, hwl]
      rw [hd] at hwl hwz
      have hww := word_le (c :: r)
      simp only [List.length_cons] at hww
      rw [hw] at hwl
      rw [b_one W c (word r) i k hwl (by omega) (by omega), Option.bind_some, ← hw, if_neg (show ¬ word (c :: r) = [] from by rw [hw]; simp)]
      cases ht : tokP (word (c :: r)) with
      | error e =>
        have := tokP_err ht
        rw [if_neg (show ¬ (oneB (i : Int) (.error e)).2.2.2.2 = 0 from this)]
        rfl
      | ok t =>
        rw [if_pos (show (oneB (i : Int) (.ok t)).2.2.2.2 = 0 from rfl), if_pos (by omega)]
        show eddywheelref05_Lex.l0 k s (acc ++ [toS ⟨t.1, (i : Int), t.2.1, t.2.2⟩]) (wrap64 ((i : Int) + (W.size : Int))) = _
        have := rec (word (c :: r)).length ⟨t.1, (i : Int), t.2.1, t.2.2⟩ (by rw [hw]; simp) (by omega)
        rw [hwz, i1 i _ (by omega), this, outB_tok, ← hd]
        simp only [List.drop_drop]
        generalize lexL (i + (word (s.data.toList.drop i)).length) (s.data.toList.drop (i + (word (s.data.toList.drop i)).length)) = x
        cases x <;> rfl
theorem lex_l0 (s : ByteArray) (hs : s.size ≤ 4000) : ∀ (d : Nat),
    (∀ (i k : Nat) (acc : List S48), d + i = s.size → acc.length ≤ i → 4 * d + s.size + 10 < k → eddywheelref05_Lex.l0 k s acc i = some (outB acc (lexL i (s.data.toList.drop i)))) ∧
    (∀ (i k : Nat) (acc : List S48), d + i = s.size → acc.length ≤ i → 4 * d + s.size + 11 < k → eddywheelref05_Lex.l1 k s acc i = some (outB acc (from_ true i (s.data.toList.drop i)))) := by
  intro d
  induction d using Nat.strongRecOn with
  | _ d ih =>
  have one1 : ∀ i : Nat, i ≤ 4000 → wrap64 ((i : Int) + 1) = ((i + 1 : Nat) : Int) := fun i hi => i1 i 1 (by omega)
  have A : ∀ (i k : Nat) (acc : List S48), d + i = s.size → acc.length ≤ i → 4 * d + s.size + 10 < k → eddywheelref05_Lex.l0 k s acc i = some (outB acc (lexL i (s.data.toList.drop i))) := by
    intro i k acc hd hacc hk
    cases hx : s.data.toList.drop i with
    | nil =>
      have : s.size ≤ i := by rw [List.drop_eq_nil_iff, ← Lib.size_eq] at hx; exact hx
      obtain ⟨k, rfl⟩ : ∃ j, k = j + 1 := ⟨k - 1, by omega⟩
      unfold eddywheelref05_Lex.l0
      rw [if_neg (by omega), lexL_nil]
      simp [outB]
    | cons c r =>
      obtain ⟨hi, hb, hr, hrl⟩ := at_drop hx
      obtain ⟨k, rfl⟩ : ∃ j, k = j + 2 := ⟨k - 2, by omega⟩
      rw [lex_l0_at s acc i (k + 1) c hi hb]
      cases hbl : isBlank c with
      | true =>
        unfold eddywheelref05_Lex.j1
        rw [if_pos rfl, one1 i (by omega), (ih (d - 1) (by omega)).1 (i + 1) k acc (by omega) (by omega) (by omega), hr, ← from_f i (c :: r), from_step false false i c r (by rw [pass_f, if_pos hbl]), from_f]
      | false =>
        by_cases h59 : (c == 59) = true
        · have e59 : c = 59 := by simpa using h59
          subst e59
          obtain ⟨k, rfl⟩ : ∃ j, k = j + 1 := ⟨k - 1, by omega⟩
          have hB := (ih (d - 1) (by omega)).2 (i + 1) k acc (by omega) (by omega) (by omega)
          rw [show (((59 : UInt8).toNat : Nat) : Int) = 59 from rfl, lex_j1_rem]
          unfold eddywheelref05_Lex.l1
          rw [if_pos (by omega), if_pos (by omega), hb, if_neg (by decide), one1 i (by omega), hB, hr, ← from_f i (59 :: r), from_step false true i 59 r (by rw [pass_f]; rfl)]
        · have h59' : (c == 59) = false := by simpa using h59
          exact lex_tok s hs i (k + 1) acc c r hx hbl h59' hacc (by omega)
            (fun n t h1 h2 => (ih (d - n) (by omega)).1 (i + n) _ _ (by omega) (by simp; omega) (by omega))
            (fun n t h1 h2 => (ih (d - n) (by omega)).1 (i + n) _ _ (by omega) (by simp; omega) (by omega))
  refine ⟨A, fun i k acc hd hacc hk => ?_⟩
  obtain ⟨k, rfl⟩ : ∃ j, k = j + 1 := ⟨k - 1, by omega⟩
  cases hx : s.data.toList.drop i with
  | nil =>
    have : s.size ≤ i := by rw [List.drop_eq_nil_iff, ← Lib.size_eq] at hx; exact hx
    unfold eddywheelref05_Lex.l1
    rw [if_neg (by omega), A i k acc hd hacc (by omega), hx]
    rfl
  | cons c r =>
    obtain ⟨hi, hb, hr, hrl⟩ := at_drop hx
    unfold eddywheelref05_Lex.l1
    rw [if_pos (by omega), if_pos (by omega), hb]
    by_cases h10 : c = 10
    · subst h10
      rw [if_pos (show (((10 : UInt8).toNat : Nat) : Int) = 10 from rfl), A i k acc hd hacc (by omega), hx, from_nl, from_f]
    · have n10 : c.toNat ≠ 10 := fun h => h10 (UInt8.toNat_inj.1 h)
      rw [if_neg (by omega), one1 i (by omega), (ih (d - 1) (by omega)).2 (i + 1) k acc (by omega) (by omega) (by omega), hr, from_step true true i c r (by rw [pass_t, if_neg (by simpa using h10)])]
theorem b_lex (s : ByteArray) (k : Nat) (hk : 5 * s.size + 10 < k) : eddywheelref05_Lex.f k s = some (outB [] (lexF s.data.toList)) := by
  unfold eddywheelref05_Lex.f lexF
  rw [← Lib.size_eq]
  by_cases h : 4000 < s.size
  · rw [if_pos (by omega), if_pos h]; rfl
  · rw [if_neg (by omega), if_neg h]
    have := (lex_l0 s (by omega) s.size).1 0 k [] (by omega) (by simp) (by omega)
    rw [List.drop_zero] at this
    exact this
end Go.Proofs.YthfbkhjcnfjmmaaDoor.Pure

/- The reference's Lex in plain lists is the program's; each states its conditions. -/
import Derived.Test.YtkgfnkilanpaoaaDoorLexQ5
namespace Go.Proofs.YtkgfnkilanpaoaaDoor.Pure
open Go Go.RowKit Go.Proofs.YtkgfnkilanpaoaaDoor.PLexs Go.Proofs.YtkgfnkilanpaoaaDoor.LexP Go.Proofs.YtkgfnkilanpaoaaDoorW.PrintWords Go.Proofs.YtkgfnkilanpaoaaDoorW.PrintLast
/-- tokens, or what is wrong, as they are told -/
def outB (acc : List S30) : Except (Nat × Int) (List Tok) → List S30 × Int × Int
  | .error (j, e) => ([], (j : Int), e)
  | .ok ts => (acc ++ ts.map toS, 0, 0)
theorem lex_out (s : ByteArray) : lex_Lex.f s = some (outB [] (lexF s.data.toList)) := by
  unfold lex_Lex.f
  cases lexF s.data.toList with
  | error x => rfl
  | ok ts => rfl
/-- tokens from a place on, in a remark or not -/
def from_ (b : Bool) (i : Nat) (l : List UInt8) : Except (Nat × Int) (List Tok) := lexL (i + (l.length - (pass b l).length)) (pass b l)
theorem from_f (i : Nat) (l : List UInt8) : from_ false i l = lexL i l := (lexL_pass i l).symm
theorem from_step (b b' : Bool) (i : Nat) (c : UInt8) (r : List UInt8) (h : pass b (c :: r) = pass b' r) : from_ b i (c :: r) = from_ b' (i + 1) r := by
  unfold from_
  have := pass_le b' r
  rw [h, List.length_cons, show i + (r.length + 1 - (pass b' r).length) = i + 1 + (r.length - (pass b' r).length) from by omega]
theorem from_nl (i : Nat) (r : List UInt8) : from_ true i (10 :: r) = from_ false i (10 :: r) := by
  rw [from_step true false i 10 r (by rw [pass_t]; rfl), from_step false false i 10 r (by rw [pass_f]; rfl)]
theorem i1 (i n : Nat) (h : i + n < 4294967296 * 2) : wrap64 ((i : Int) + (n : Int)) = ((i + n : Nat) : Int) := by rw [w64 _ (by omega) (by omega)]; omega
theorem at_drop {s : ByteArray} {i : Nat} {c : UInt8} {r : List UInt8} (h : s.data.toList.drop i = c :: r) : i < s.size ∧ bt s i = ((c.toNat : Nat) : Int) ∧ s.data.toList.drop (i + 1) = r ∧ r.length + 1 = s.size - i := by
  have hi : i < s.data.toList.length := by
    by_cases hh : i < s.data.toList.length
    · exact hh
    · rw [List.drop_eq_nil_iff.2 (by omega)] at h; cases h
  have hi2 : i < s.size := by rw [Lib.size_eq]; exact hi
  have e := List.drop_eq_getElem_cons hi
  rw [h] at e
  injection e with e1 e2
  refine ⟨hi2, ?_, e2.symm, ?_⟩
  · rw [bt_byte s i hi2, ← e1]
  · have := congrArg List.length h
    rw [List.length_drop, ← Lib.size_eq, List.length_cons] at this
    omega
theorem lex_j1_rem (s : ByteArray) (acc : List S30) (i : Int) (k : Nat) : eddywheelref05_Lex.j1 (k + 1) s acc i 59 false = eddywheelref05_Lex.l1 k s acc i := by
  conv => lhs; unfold eddywheelref05_Lex.j1
  rw [if_neg (by simp), if_pos rfl]
theorem lex_l0_at (s : ByteArray) (acc : List S30) (i k : Nat) (c : UInt8) (hi : i < s.size) (hb : bt s i = ((c.toNat : Nat) : Int)) : eddywheelref05_Lex.l0 (k + 1) s acc i = eddywheelref05_Lex.j1 k s acc i ((c.toNat : Nat) : Int) (isBlank c) := by
  conv => lhs; unfold eddywheelref05_Lex.l0
  rw [if_pos (by omega), if_pos (by omega), hb]
  have h0 : isBlank c = (c == 32 || c == 9 || c == 10) := rfl
  by_cases h1 : c = 32
  · subst h1; rw [if_pos (show (((32 : UInt8).toNat : Nat) : Int) = 32 from rfl)]; rfl
  · have n1 : c.toNat ≠ 32 := fun h => h1 (UInt8.toNat_inj.1 h)
    rw [if_neg (by omega)]
    by_cases h2 : c = 9
    · subst h2; rw [if_pos (show (((9 : UInt8).toNat : Nat) : Int) = 9 from rfl)]; rfl
    · have n2 : c.toNat ≠ 9 := fun h => h2 (UInt8.toNat_inj.1 h)
      rw [if_neg (by omega)]
      congr 1
      rw [h0, show (c == 32) = false from by simpa using h1, show (c == 9) = false from by simpa using h2, Bool.false_or, Bool.false_or]
      by_cases h3 : c = 10
      · subst h3; rfl
      · have n3 : c.toNat ≠ 10 := fun h => h3 (UInt8.toNat_inj.1 h)
        rw [show (c == 10) = false from by simpa using h3]
        simpa using (by omega : ¬ (c.toNat : Int) = 10)
theorem mark_at (c : UInt8) : eddywheelref05_mark.f ((c.toNat : Nat) : Int) = some (if c == 40 then 1 else if c == 41 then 2 else if c == 39 then 3 else 0) := by
  unfold eddywheelref05_mark.f
  by_cases h1 : c = 40
  · subst h1; rfl
  by_cases h2 : c = 41
  · subst h2; rfl
  by_cases h3 : c = 39
  · subst h3; rfl
  have n1 : c.toNat ≠ 40 := fun h => h1 (UInt8.toNat_inj.1 h)
  have n2 : c.toNat ≠ 41 := fun h => h2 (UInt8.toNat_inj.1 h)
  have n3 : c.toNat ≠ 39 := fun h => h3 (UInt8.toNat_inj.1 h)
  rw [if_neg (by omega), if_neg (by omega), if_neg (by omega), if_neg (by simpa using h1), if_neg (by simpa using h2), if_neg (by simpa using h3)]
theorem letter_at (c : UInt8) : eddywheelref05_letter.f ((c.toNat : Nat) : Int) = some (isLetter c) := by
  unfold eddywheelref05_letter.f
  have hc := c.toNat_lt
  rw [if_pos (by omega)]
  congr 2
  simp
theorem word_list (s : ByteArray) (i : Nat) : (s.extract i (i + (word (s.data.toList.drop i)).length)).data.toList = word (s.data.toList.drop i) := by
  rw [Go.Proofs.YtkgfnkilanpaoaaDoor.LexC.ext_list, show i + (word (s.data.toList.drop i)).length - i = (word (s.data.toList.drop i)).length from by omega]
  exact tw_take isLetter _
theorem outB_tok (acc : List S30) (t : Tok) (x : Except (Nat × Int) (List Tok)) : outB (acc ++ [toS t]) x = outB acc (match x with | .error e => .error e | .ok ts => .ok (t :: ts)) := by
  cases x with
  | error e => rfl
  | ok ts => simp [outB]
theorem ba_tl (s : ByteArray) : s.toList = s.data.toList := by
  obtain ⟨⟨l⟩⟩ := s
  exact ByteArray.toList_mk l
theorem lex_tok (s : ByteArray) (hs : s.size ≤ 4000) (i k : Nat) (acc : List S30) (c : UInt8) (r : List UInt8) (hd : s.data.toList.drop i = c :: r) (hb : isBlank c = false) (h59 : (c == 59) = false) (hacc : acc.length ≤ i) (hk : s.size + 5 < k)
    (rec : ∀ (n : Nat) (t : Tok), 1 ≤ n → n ≤ r.length + 1 → eddywheelref05_Lex.l0 (k - 1) s (acc ++ [toS t]) ((i + n : Nat) : Int) = some (outB (acc ++ [toS t]) (lexL (i + n) (s.data.toList.drop (i + n)))))
    (rec2 : ∀ (n : Nat) (t : Tok), 1 ≤ n → n ≤ r.length + 1 → eddywheelref05_Lex.l0 (k - 2) s (acc ++ [toS t]) ((i + n : Nat) : Int) = some (outB (acc ++ [toS t]) (lexL (i + n) (s.data.toList.drop (i + n))))) :
    eddywheelref05_Lex.j1 k s acc i ((c.toNat : Nat) : Int) false = some (outB acc (lexL i (c :: r))) := by
  obtain ⟨k, rfl⟩ : ∃ j, k = j + 1 := ⟨k - 1, by omega⟩
  rw [Nat.add_sub_cancel] at rec
  rw [show k + 1 - 2 = k - 1 from rfl] at rec2
  obtain ⟨hi, _, hr, hrl⟩ := at_drop hd
  have n59 : c.toNat ≠ 59 := fun h => by rw [show c = 59 from UInt8.toNat_inj.1 h] at h59; cases h59
  unfold eddywheelref05_Lex.j1
  rw [if_neg (by simp), if_neg (by omega), mark_at, Option.bind_some, lexL_tok i c r (pass_fix c r hb h59), firstP_eq]
  have one : ∀ (kd : Int), (if acc.length < 3518437208883 then eddywheelref05_Lex.l0 k s (acc ++ [(⟨kd, (i : Int), 0, (⟨#[]⟩ : ByteArray)⟩ : S30)]) (wrap64 ((i : Int) + 1)) else none) = some (outB acc (match (lexL (i + 1) ((c :: r).drop 1)) with | .error e => .error e | .ok ts => .ok (⟨kd, (i : Int), 0, []⟩ :: ts))) := by
    intro kd
    rw [if_pos (by omega), show (wrap64 ((i : Int) + 1)) = ((i + 1 : Nat) : Int) from i1 i 1 (by omega)]
    have := rec 1 ⟨kd, (i : Int), 0, []⟩ (by omega) (by omega)
    rw [show (toS ⟨kd, (i : Int), 0, []⟩) = (⟨kd, (i : Int), 0, (⟨#[]⟩ : ByteArray)⟩ : S30) from rfl] at this
    rw [this, hr, List.drop_one, List.tail_cons, show (⟨kd, (i : Int), 0, (⟨#[]⟩ : ByteArray)⟩ : S30) = toS ⟨kd, (i : Int), 0, []⟩ from rfl, outB_tok]
  by_cases h40 : (c == 40) = true
  · rw [if_pos h40, if_neg (by decide), if_pos h40]
    exact one 1
  rw [if_neg h40, if_neg h40]
  by_cases h41 : (c == 41) = true
  · rw [if_pos h41, if_neg (by decide), if_pos h41]
    exact one 2
  rw [if_neg h41, if_neg h41]
  by_cases h39 : (c == 39) = true
  · rw [if_pos h39, if_neg (by decide), if_pos h39]
    exact one 3
  rw [if_neg h39, if_neg h39, if_pos rfl]
  by_cases h35 : (c == 35) = true
  · have e35 : c = 35 := by simpa using h35
    rw [if_pos h35, if_pos (by rw [e35]; rfl), show wrap64 ((i : Int) + 1) = ((i + 1 : Nat) : Int) from i1 i 1 (by omega), b_word s (i + 1) k (by omega) (by omega) (by omega), Option.bind_some]
    have hwl := word_list s (i + 1)
    generalize s.extract (i + 1) (i + 1 + (word (s.data.toList.drop (i + 1))).length) = W at hwl
    rw [hr] at hwl
    obtain ⟨k, rfl⟩ : ∃ j, k = j + 1 := ⟨k - 1, by omega⟩
    have hwr := word_le r
    have two : ∀ (n : Int), 1 ≤ r.length → (if acc.length < 3518437208883 then eddywheelref05_Lex.l0 k s (acc ++ [(⟨5, (i : Int), n, (⟨#[]⟩ : ByteArray)⟩ : S30)]) (wrap64 ((i : Int) + 2)) else none) = some (outB acc (match (lexL (i + 2) ((c :: r).drop 2)) with | .error e => .error e | .ok ts => .ok (⟨5, (i : Int), n, []⟩ :: ts))) := by
      intro n h1
      rw [if_pos (by omega), show (wrap64 ((i : Int) + 2)) = ((i + 2 : Nat) : Int) from i1 i 2 (by omega)]
      have := rec2 2 ⟨5, (i : Int), n, []⟩ (by omega) (by omega)
      rw [show k + 1 - 1 = k from rfl] at this
      rw [show (⟨5, (i : Int), n, (⟨#[]⟩ : ByteArray)⟩ : S30) = toS ⟨5, (i : Int), n, []⟩ from rfl, this, outB_tok, ← hd, List.drop_drop]
    rw [ba_tl, hwl]
    unfold eddywheelref05_Lex.j3
    by_cases hT : word r = [116]
    · rw [if_pos hT, if_pos hT, if_neg (by simp), ba_tl, hwl, if_pos hT]
      exact two 1 (by rw [hT] at hwr; simpa using hwr)
    · rw [if_neg hT, if_neg hT]
      by_cases hF : word r = [102]
      · rw [if_pos hF, if_neg (by rw [hF]; simp), ba_tl, hwl, if_neg hT]
        exact two 0 (by rw [hF] at hwr; simpa using hwr)
      · rw [if_neg hF, if_pos (by simpa using hF)]
        rfl
  · have n35 : c.toNat ≠ 35 := fun h => by rw [show c = 35 from UInt8.toNat_inj.1 h] at h35; exact h35 rfl
    rw [if_neg h35, if_neg (by omega), letter_at, Option.bind_some]
    have hw : word (c :: r) = if isLetter c then c :: word r else [] := by
      unfold word; rw [List.takeWhile_cons]
    cases hl : isLetter c with
    | false =>
      rw [hl, if_neg (by simp)] at hw
      rw [if_neg (by simp), hw, if_pos rfl]
      rfl
    | true =>
      rw [hl, if_pos rfl] at hw
      rw [if_pos rfl, b_word s i k (by omega) (by omega) (by omega), Option.bind_some]
      have hwl := word_list s i
      generalize s.extract i (i + (word (s.data.toList.drop i)).length) = W at hwl
      have hwz : W.size = (word (s.data.toList.drop i)).length := by rw [Lib.size_eq, hwl]
      rw [hd] at hwl hwz
      have hww := word_le (c :: r)
      simp only [List.length_cons] at hww
      rw [hw] at hwl
      rw [b_one W c (word r) i k hwl (by omega) (by omega), Option.bind_some, ← hw, if_neg (show ¬ word (c :: r) = [] from by rw [hw]; simp)]
      cases ht : tokP (word (c :: r)) with
      | error e =>
        have := tokP_err ht
        rw [if_neg (show ¬ (oneB (i : Int) (.error e)).2.2.2.2 = 0 from this)]
        rfl
      | ok t =>
        rw [if_pos (show (oneB (i : Int) (.ok t)).2.2.2.2 = 0 from rfl), if_pos (by omega)]
        show eddywheelref05_Lex.l0 k s (acc ++ [toS ⟨t.1, (i : Int), t.2.1, t.2.2⟩]) (wrap64 ((i : Int) + (W.size : Int))) = _
        have := rec (word (c :: r)).length ⟨t.1, (i : Int), t.2.1, t.2.2⟩ (by rw [hw]; simp) (by omega)
        rw [hwz, i1 i _ (by omega), this, outB_tok, ← hd]
        simp only [List.drop_drop]
        generalize lexL (i + (word (s.data.toList.drop i)).length) (s.data.toList.drop (i + (word (s.data.toList.drop i)).length)) = x
        cases x <;> rfl
theorem lex_l0 (s : ByteArray) (hs : s.size ≤ 4000) : ∀ (d : Nat),
    (∀ (i k : Nat) (acc : List S30), d + i = s.size → acc.length ≤ i → 4 * d + s.size + 10 < k → eddywheelref05_Lex.l0 k s acc i = some (outB acc (lexL i (s.data.toList.drop i)))) ∧
    (∀ (i k : Nat) (acc : List S30), d + i = s.size → acc.length ≤ i → 4 * d + s.size + 11 < k → eddywheelref05_Lex.l1 k s acc i = some (outB acc (from_ true i (s.data.toList.drop i)))) := by
  intro d
  induction d using Nat.strongRecOn with
  | _ d ih =>
  have one1 : ∀ i : Nat, i ≤ 4000 → wrap64 ((i : Int) + 1) = ((i + 1 : Nat) : Int) := fun i hi => i1 i 1 (by omega)
  have A : ∀ (i k : Nat) (acc : List S30), d + i = s.size → acc.length ≤ i → 4 * d + s.size + 10 < k → eddywheelref05_Lex.l0 k s acc i = some (outB acc (lexL i (s.data.toList.drop i))) := by
    intro i k acc hd hacc hk
    cases hx : s.data.toList.drop i with
    | nil =>
      have : s.size ≤ i := by rw [List.drop_eq_nil_iff, ← Lib.size_eq] at hx; exact hx
      obtain ⟨k, rfl⟩ : ∃ j, k = j + 1 := ⟨k - 1, by omega⟩
      unfold eddywheelref05_Lex.l0
      rw [if_neg (by omega), lexL_nil]
      simp [outB]
    | cons c r =>
      obtain ⟨hi, hb, hr, hrl⟩ := at_drop hx
      obtain ⟨k, rfl⟩ : ∃ j, k = j + 2 := ⟨k - 2, by omega⟩
      rw [lex_l0_at s acc i (k + 1) c hi hb]
      cases hbl : isBlank c with
      | true =>
        unfold eddywheelref05_Lex.j1
        rw [if_pos rfl, one1 i (by omega), (ih (d - 1) (by omega)).1 (i + 1) k acc (by omega) (by omega) (by omega), hr, ← from_f i (c :: r), from_step false false i c r (by rw [pass_f, if_pos hbl]), from_f]
      | false =>
        by_cases h59 : (c == 59) = true
        · have e59 : c = 59 := by simpa using h59
          subst e59
          obtain ⟨k, rfl⟩ : ∃ j, k = j + 1 := ⟨k - 1, by omega⟩
          have hB := (ih (d - 1) (by omega)).2 (i + 1) k acc (by omega) (by omega) (by omega)
          rw [show (((59 : UInt8).toNat : Nat) : Int) = 59 from rfl, lex_j1_rem]
          unfold eddywheelref05_Lex.l1
          rw [if_pos (by omega), if_pos (by omega), hb, if_neg (by decide), one1 i (by omega), hB, hr, ← from_f i (59 :: r), from_step false true i 59 r (by rw [pass_f]; rfl)]
        · have h59' : (c == 59) = false := by simpa using h59
          exact lex_tok s hs i (k + 1) acc c r hx hbl h59' hacc (by omega)
            (fun n t h1 h2 => (ih (d - n) (by omega)).1 (i + n) _ _ (by omega) (by simp; omega) (by omega))
            (fun n t h1 h2 => (ih (d - n) (by omega)).1 (i + n) _ _ (by omega) (by simp; omega) (by omega))
  refine ⟨A, fun i k acc hd hacc hk => ?_⟩
  obtain ⟨k, rfl⟩ : ∃ j, k = j + 1 := ⟨k - 1, by omega⟩
  cases hx : s.data.toList.drop i with
  | nil =>
    have : s.size ≤ i := by rw [List.drop_eq_nil_iff, ← Lib.size_eq] at hx; exact hx
    unfold eddywheelref05_Lex.l1
    rw [if_neg (by omega), A i k acc hd hacc (by omega), hx]
    rfl
  | cons c r =>
    obtain ⟨hi, hb, hr, hrl⟩ := at_drop hx
    unfold eddywheelref05_Lex.l1
    rw [if_pos (by omega), if_pos (by omega), hb]
    by_cases h10 : c = 10
    · subst h10
      rw [if_pos (show (((10 : UInt8).toNat : Nat) : Int) = 10 from rfl), A i k acc hd hacc (by omega), hx, from_nl, from_f]
    · have n10 : c.toNat ≠ 10 := fun h => h10 (UInt8.toNat_inj.1 h)
      rw [if_neg (by omega), one1 i (by omega), (ih (d - 1) (by omega)).2 (i + 1) k acc (by omega) (by omega) (by omega), hr, from_step true true i c r (by rw [pass_t, if_neg (by simpa using h10)])]
theorem b_lex (s : ByteArray) (k : Nat) (hk : 5 * s.size + 10 < k) : eddywheelref05_Lex.f k s = some (outB [] (lexF s.data.toList)) := by
  unfold eddywheelref05_Lex.f lexF
  rw [← Lib.size_eq]
  by_cases h : 4000 < s.size
  · rw [if_pos (by omega), if_pos h]; rfl
  · rw [if_neg (by omega), if_neg h]
    have := (lex_l0 s (by omega) s.size).1 0 k [] (by omega) (by simp) (by omega)
    rw [List.drop_zero] at this
    exact this
end Go.Proofs.YtkgfnkilanpaoaaDoor.Pure

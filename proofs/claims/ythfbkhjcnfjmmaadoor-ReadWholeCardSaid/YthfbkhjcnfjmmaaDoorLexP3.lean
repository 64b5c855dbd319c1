/- Plain laws of texts behind each other (lex); each states its conditions. -/
import Derived.Test.YthfbkhjcnfjmmaaDoorLexP2
namespace Go.Proofs.YthfbkhjcnfjmmaaDoor.LexP
open Go.Lib
/-- tokens from a place on, in a remark or not -/
def fromM (b : Bool) (i : Nat) (l : List UInt8) : Except (Nat × Int) (List Tok) := lexL (i + (l.length - (pass b l).length)) (pass b l)
theorem fromM_f (i : Nat) (l : List UInt8) : fromM false i l = lexL i l := (lexL_pass i l).symm
theorem pass_app : ∀ (m : Bool) (a b : List UInt8), (pass m a ≠ [] → pass m (a ++ b) = pass m a ++ b) ∧ (pass m a = [] → ∃ m', pass m (a ++ b) = pass m' b)
  | m, [], b => ⟨fun h => absurd (pass_nil m) h, fun _ => ⟨m, rfl⟩⟩
  | true, c :: r, b => by
    rw [List.cons_append, pass_t, pass_t]
    split
    · exact pass_app false r b
    · exact pass_app true r b
  | false, c :: r, b => by
    rw [List.cons_append, pass_f, pass_f]
    split
    · exact pass_app false r b
    · split
      · exact pass_app true r b
      · exact ⟨fun _ => rfl, fun h => by cases h⟩
/-- a word ends ahead of b -/
def WEnds (b : List UInt8) : Prop := b = [] ∨ ∃ c r, b = c :: r ∧ isLetter c = false
theorem word_app (a b : List UInt8) (h : WEnds b) : word (a ++ b) = word a := by
  unfold word
  induction a with
  | nil =>
    rcases h with rfl | ⟨c, r, rfl, hc⟩
    · rfl
    · rw [List.nil_append, List.takeWhile_cons, if_neg (by simp [hc])]; rfl
  | cons x a ih => rw [List.cons_append, List.takeWhile_cons, List.takeWhile_cons, ih]
theorem firstP_app (c : UInt8) (r b : List UInt8) (h : WEnds b) : firstP (c :: (r ++ b)) = firstP (c :: r) := by
  rw [firstP_eq, firstP_eq, word_app r b h, show c :: (r ++ b) = (c :: r) ++ b from rfl, word_app (c :: r) b h]
/-- a text, and another behind it -/
theorem lex_app (b : List UInt8) (hb : WEnds b) : ∀ (n i : Nat) (a : List UInt8), a.length ≤ n → ∃ m, lexL i (a ++ b) = match lexL i a with
    | .error e => .error e
    | .ok ts => comb ts (fromM m (i + a.length) b)
  | n, i, a, hn => by
    obtain ⟨p1, p2⟩ := pass_app false a b
    cases hp : pass false a with
    | nil =>
      obtain ⟨m, hm⟩ := p2 hp
      refine ⟨m, ?_⟩
      have hl := pass_le m b
      rw [lexL_pass i a, hp, lexL_nil, lexL_pass i (a ++ b), hm, List.length_append, show i + (a.length + b.length - (pass m b).length) = i + a.length + (b.length - (pass m b).length) from by omega]
      show _ = comb [] _
      unfold fromM
      cases lexL (i + a.length + (b.length - (pass m b).length)) (pass m b) <;> rfl
    | cons c r =>
      have h1 := p1 (by rw [hp]; simp)
      have hl := pass_le false a
      have hh := pass_head false a c r hp
      rw [hp] at h1 hl
      simp only [List.length_cons] at hl
      have hi : i + ((a ++ b).length - (pass false (a ++ b)).length) = i + (a.length - (r.length + 1)) := by rw [h1]; simp; omega
      rw [lexL_pass i a, lexL_pass i (a ++ b), hi, hp, h1, List.length_cons]
      generalize hj : i + (a.length - (r.length + 1)) = j
      have hij : i + a.length = j + (r.length + 1) := by omega
      rw [show (c :: r) ++ b = c :: (r ++ b) from rfl, lexL_tok j c (r ++ b) (pass_fix c _ hh.1 hh.2), lexL_tok j c r (pass_fix c r hh.1 hh.2), firstP_app c r b hb]
      cases hf : firstP (c :: r) with
      | error e => exact ⟨true, rfl⟩
      | ok x =>
        obtain ⟨t, k⟩ := x
        have hk := firstP_pos hf
        match n, hn with
        | 0, hn => omega
        | n + 1, hn =>
          obtain ⟨m, hm⟩ := lex_app b hb n (j + k) ((c :: r).drop k) (by rw [List.length_drop, List.length_cons]; omega)
          refine ⟨m, ?_⟩
          have hd : (c :: (r ++ b)).drop k = (c :: r).drop k ++ b := by
            rw [show c :: (r ++ b) = (c :: r) ++ b from rfl, List.drop_append_of_le_length (by rw [List.length_cons]; omega)]
          simp only
          rw [hd, hm, hij, show j + k + ((c :: r).drop k).length = j + (r.length + 1) from by rw [List.length_drop, List.length_cons]; omega]
          cases lexL (j + k) ((c :: r).drop k) with
          | error e => rfl
          | ok ts => simp only; cases fromM m (j + (r.length + 1)) b <;> rfl
/-- where tokens stand -/
theorem lexL_pos : ∀ (n i : Nat) (l : List UInt8) (ts : List Tok), l.length ≤ n → lexL i l = .ok ts → ∀ t ∈ ts, (i : Int) ≤ t.pos ∧ t.pos < (i + l.length : Nat)
  | n, i, l, ts, hn, h, t, ht => by
    rw [lexL_pass] at h
    have hl := pass_le false l
    cases hp : pass false l with
    | nil => rw [hp, lexL_nil] at h; injection h with h; subst h; cases ht
    | cons c r =>
      have hh := pass_head false l c r hp
      rw [hp] at h hl
      simp only [List.length_cons] at hl
      rw [List.length_cons, lexL_tok _ c r (pass_fix c r hh.1 hh.2)] at h
      cases hf : firstP (c :: r) with
      | error e => rw [hf] at h; cases h
      | ok x =>
        obtain ⟨t0, k⟩ := x
        have hk := firstP_pos hf
        rw [hf] at h
        simp only at h
        match n, hn with
        | 0, hn => omega
        | n + 1, hn =>
          cases hr : lexL (i + (l.length - (r.length + 1)) + k) ((c :: r).drop k) with
          | error e => rw [hr] at h; cases h
          | ok ts' =>
            rw [hr] at h
            injection h with h
            subst h
            rcases List.mem_cons.1 ht with rfl | ht
            · exact ⟨by simp only; omega, by simp only; omega⟩
            · have := lexL_pos n _ _ ts' (by rw [List.length_drop, List.length_cons]; omega) hr t ht
              rw [List.length_drop, List.length_cons] at this
              omega
def shift (d : Nat) (t : Tok) : Tok := ⟨t.kind, t.pos + d, t.n, t.s⟩
/-- further behind -/
theorem lexL_shift (d : Nat) : ∀ (n i : Nat) (l : List UInt8), l.length ≤ n → lexL (i + d) l = match lexL i l with
    | .error (j, e) => .error (j + d, e)
    | .ok ts => .ok (ts.map (shift d))
  | n, i, l, hn => by
    rw [lexL_pass, lexL_pass i l]
    have hl := pass_le false l
    cases hp : pass false l with
    | nil => rw [lexL_nil, lexL_nil]; rfl
    | cons c r =>
      have hh := pass_head false l c r hp
      rw [hp] at hl
      simp only [List.length_cons] at hl
      rw [List.length_cons, show i + d + (l.length - (r.length + 1)) = i + (l.length - (r.length + 1)) + d from by omega]
      generalize i + (l.length - (r.length + 1)) = j
      rw [lexL_tok _ c r (pass_fix c r hh.1 hh.2), lexL_tok _ c r (pass_fix c r hh.1 hh.2)]
      cases hf : firstP (c :: r) with
      | error e => rfl
      | ok x =>
        obtain ⟨t0, k⟩ := x
        have hk := firstP_pos hf
        match n, hn with
        | 0, hn => omega
        | n + 1, hn =>
          have ih := lexL_shift d n (j + k) ((c :: r).drop k) (by rw [List.length_drop, List.length_cons]; omega)
          simp only
          rw [show j + d + k = j + k + d from by omega, ih]
          cases lexL (j + k) ((c :: r).drop k) with
          | error e => rfl
          | ok ts => simp [shift]
theorem lexL_err : ∀ (n i : Nat) (l : List UInt8) (j : Nat) (e : Int), l.length ≤ n → lexL i l = .error (j, e) → e ≠ 0
  | n, i, l, j, e, hn, h => by
    rw [lexL_pass] at h
    have hl := pass_le false l
    cases hp : pass false l with
    | nil => rw [hp, lexL_nil] at h; cases h
    | cons c r =>
      have hh := pass_head false l c r hp
      rw [hp] at h hl
      simp only [List.length_cons] at hl
      rw [List.length_cons, lexL_tok _ c r (pass_fix c r hh.1 hh.2)] at h
      cases hf : firstP (c :: r) with
      | error e2 =>
        rw [hf] at h
        injection h with h
        injection h with _ h
        subst h
        exact firstP_err hf
      | ok x =>
        obtain ⟨t0, k⟩ := x
        have hk := firstP_pos hf
        rw [hf] at h
        simp only at h
        match n, hn with
        | 0, hn => omega
        | n + 1, hn =>
          cases hr : lexL (i + (l.length - (r.length + 1)) + k) ((c :: r).drop k) with
          | error x =>
            obtain ⟨j2, e2⟩ := x
            rw [hr] at h
            injection h with h
            injection h with _ h
            subst h
            exact lexL_err n _ _ _ _ (by rw [List.length_drop, List.length_cons]; omega) hr
          | ok ts' => rw [hr] at h; cases h
theorem fromM_err {m : Bool} {i : Nat} {l : List UInt8} {j : Nat} {e : Int} (h : fromM m i l = .error (j, e)) : e ≠ 0 := lexL_err _ _ _ _ _ (Nat.le_refl _) h
theorem fromM_pos {m : Bool} {i : Nat} {l : List UInt8} {ts : List Tok} (h : fromM m i l = .ok ts) : ∀ t ∈ ts, (i : Int) ≤ t.pos := fun t ht => by
  have := (lexL_pos _ _ _ _ (Nat.le_refl _) h t ht).1
  omega
theorem lexF_eq {l : List UInt8} (h : l.length ≤ 4000) : lexF l = lexL 0 l := by unfold lexF; rw [if_neg (by omega)]
theorem lexL_errpos : ∀ (n i : Nat) (l : List UInt8) (j : Nat) (e : Int), l.length ≤ n → lexL i l = .error (j, e) → i ≤ j ∧ j < i + l.length
  | n, i, l, j, e, hn, h => by
    rw [lexL_pass] at h
    have hl := pass_le false l
    cases hp : pass false l with
    | nil => rw [hp, lexL_nil] at h; cases h
    | cons c r =>
      have hh := pass_head false l c r hp
      rw [hp] at h hl
      simp only [List.length_cons] at hl
      rw [List.length_cons, lexL_tok _ c r (pass_fix c r hh.1 hh.2)] at h
      cases hf : firstP (c :: r) with
      | error e2 =>
        rw [hf] at h
        injection h with h
        injection h with h _
        subst h
        omega
      | ok x =>
        obtain ⟨t0, k⟩ := x
        have hk := firstP_pos hf
        rw [hf] at h
        simp only at h
        match n, hn with
        | 0, hn => omega
        | n + 1, hn =>
          cases hr : lexL (i + (l.length - (r.length + 1)) + k) ((c :: r).drop k) with
          | error x =>
            obtain ⟨j2, e2⟩ := x
            rw [hr] at h
            injection h with h
            injection h with h _
            subst h
            have := lexL_errpos n _ _ _ _ (by rw [List.length_drop, List.length_cons]; omega) hr
            rw [List.length_drop, List.length_cons] at this
            omega
          | ok ts' => rw [hr] at h; cases h
theorem fromM_nl (m : Bool) (i : Nat) (r : List UInt8) : fromM m i (10 :: r) = lexL (i + 1) r := by
  have h : pass m (10 :: r) = pass false r := by cases m; rw [pass_f]; rfl; rw [pass_t]; rfl
  have hl := pass_le false r
  unfold fromM
  rw [h, lexL_pass (i + 1) r, List.length_cons, show i + (r.length + 1 - (pass false r).length) = i + 1 + (r.length - (pass false r).length) from by omega]
/-- two texts, with a newline between -/
theorem lex_joins (l1 l2 : List UInt8) : lexL 0 (l1 ++ 10 :: l2) = match lexL 0 l1 with
    | .error x => .error x
    | .ok a => match lexL 0 l2 with
      | .error (j, e) => .error (j + (l1.length + 1), e)
      | .ok b => .ok (a ++ b.map (shift (l1.length + 1))) := by
  obtain ⟨m, hm⟩ := lex_app (10 :: l2) (.inr ⟨10, l2, rfl, by decide⟩) l1.length 0 l1 (Nat.le_refl _)
  rw [hm]
  cases lexL 0 l1 with
  | error x => rfl
  | ok a =>
    simp only
    rw [fromM_nl, show 0 + l1.length + 1 = 0 + (l1.length + 1) from by omega, lexL_shift (l1.length + 1) l2.length 0 l2 (Nat.le_refl _)]
    cases lexL 0 l2 with
    | error x => rfl
    | ok b => rfl
/-- what is passed over, piece by piece -/
def piece (q : Nat) : List UInt8 := match q with | 0 => [32] | 1 => [9] | 2 => [10] | _ => [59, 32, 40, 32, 120, 10]
def rep : Nat → List UInt8 → List UInt8
  | 0, _ => []
  | n + 1, p => rep n p ++ p
theorem pass_piece (q : Nat) (l : List UInt8) : pass false (piece q ++ l) = pass false l := by
  unfold piece
  split <;> simp [pass_f, pass_t, isBlank]
theorem pass_rep (q : Nat) : ∀ (n : Nat) (l : List UInt8), pass false (rep n (piece q) ++ l) = pass false l
  | 0, l => rfl
  | n + 1, l => by rw [rep, List.append_assoc, pass_rep q n, pass_piece]
theorem rep_len (q : Nat) : ∀ n : Nat, (rep n (piece q)).length ≤ n * 6
  | 0 => by simp [rep]
  | n + 1 => by
    have := rep_len q n
    have h : (piece q).length ≤ 6 := by unfold piece; split <;> simp
    rw [rep, List.length_append]; omega
theorem passes_ahead (P l : List UInt8) (h : ∀ l, pass false (P ++ l) = pass false l) : lexL 0 (P ++ l) = match lexL 0 l with
    | .error (j, e) => .error (j + P.length, e)
    | .ok ts => .ok (ts.map (shift P.length)) := by
  have hl := pass_le false l
  have h1 := lexL_shift P.length l.length 0 l (Nat.le_refl _)
  rw [lexL_pass 0 (P ++ l), h, List.length_append, show 0 + (P.length + l.length - (pass false l).length) = 0 + P.length + (l.length - (pass false l).length) from by omega, ← lexL_pass (0 + P.length) l]
  exact h1
theorem passes_behind (P l : List UInt8) (h : ∀ l, pass false (P ++ l) = pass false l) : lexL 0 (l ++ 10 :: P) = lexL 0 l := by
  have hP : lexL 0 P = .ok [] := by
    have := h []
    rw [List.append_nil, pass_nil] at this
    rw [lexL_pass, this, lexL_nil]
  rw [lex_joins, hP]
  cases lexL 0 l with
  | error x => rfl
  | ok a => simp
theorem lexN_len : ∀ (k i : Nat) (l : List UInt8) (ts : List Tok), lexN k i l = .ok ts → ts.length ≤ k
  | 0, _, _, ts, h => by injection h with h; subst h; exact Nat.le_refl _
  | k + 1, i, l, ts, h => by
    rw [lexN_succ] at h
    unfold lexStep at h
    split at h
    · injection h with h; subst h; exact Nat.zero_le _
    · split at h
      · cases h
      · split at h
        · cases h
        · rename_i hh
          injection h with h
          subst h
          have := lexN_len k _ _ _ hh
          simp; omega
open Go.Lib
/-- the letters of names that are tried -/
def lettersL : List UInt8 := [97, 98, 99, 120, 121, 122, 65, 66, 90, 48, 49, 50, 51, 52, 53, 54, 55, 56, 57, 33, 36, 37, 38, 42, 43, 45, 47, 58, 60, 61, 62, 63, 94, 95, 126]
def nameB (c : Int) : UInt8 := lettersL.getD (c % 35).toNat 97
def okAt (many : Bool) (j : Nat) (c : UInt8) : Bool := isDigit c || (j == 0 && c == 45 && many)
def numK (many : Bool) (L : List UInt8) (k : Nat) : Bool := (List.range k).all fun j => okAt many j (L.getD j 0)
theorem numK_succ (many : Bool) (L : List UInt8) (k : Nat) : numK many L (k + 1) = (numK many L k && okAt many k (L.getD k 0)) := by
  unfold numK; rw [List.range_succ, List.all_append]; simp
theorem letters_ok : lettersL.all isLetter = true := by decide
theorem nameB_letter (c : Int) : isLetter (nameB c) = true := by
  have h : nameB c ∈ lettersL := by
    unfold nameB
    rw [List.getD_eq_getElem?_getD]
    cases hx : lettersL[(c % 35).toNat]? with
    | none => show (97 : UInt8) ∈ lettersL; decide
    | some v => exact List.mem_of_getElem? hx
  exact List.all_eq_true.1 letters_ok _ h
theorem letter_all : ∀ n < 256, isLetter (UInt8.ofNat n) = true → isBlank (UInt8.ofNat n) = false ∧ (UInt8.ofNat n == 59) = false ∧ (UInt8.ofNat n == 40) = false ∧ (UInt8.ofNat n == 41) = false ∧ (UInt8.ofNat n == 39) = false ∧ (UInt8.ofNat n == 35) = false := by decide +kernel
theorem letter_not (c : UInt8) (h : isLetter c = true) : isBlank c = false ∧ (c == 59) = false ∧ (c == 40) = false ∧ (c == 41) = false ∧ (c == 39) = false ∧ (c == 35) = false := by
  have := letter_all c.toNat c.toNat_lt
  rw [UInt8.ofNat_toNat] at this
  exact this h
theorem tw_all (p : UInt8 → Bool) : ∀ l : List UInt8, (∀ x ∈ l, p x = true) → l.takeWhile p = l
  | [], _ => rfl
  | c :: r, h => by rw [List.takeWhile_cons, if_pos (h c (by simp)), tw_all p r (fun x hx => h x (by simp [hx]))]
theorem lex_letters (c : UInt8) (r : List UInt8) (h : ∀ x ∈ c :: r, isLetter x = true) : lexL 0 (c :: r) = match tokP (c :: r) with
    | .error e => .error (0, e)
    | .ok t => .ok [⟨t.1, 0, t.2.1, t.2.2⟩] := by
  obtain ⟨h1, h2, h3, h4, h5, h6⟩ := letter_not c (h c (by simp))
  have hw : word (c :: r) = c :: r := by
    exact tw_all isLetter _ h
  rw [lexL_tok 0 c r (pass_fix c r h1 h2), firstP_eq, if_neg (by simp [h3]), if_neg (by simp [h4]), if_neg (by simp [h5]), if_neg (by simp [h6]), hw, if_neg (by simp)]
  cases ht : tokP (c :: r) with
  | error e => rfl
  | ok t =>
    simp only
    rw [List.drop_length, lexL_nil]
    rfl
theorem range_all (f : UInt8 → Bool) : ∀ r : List UInt8, ((List.range r.length).all fun j => f (r.getD j 0)) = r.all f
  | [] => rfl
  | c :: r => by
    rw [List.length_cons, List.range_succ_eq_map, List.all_cons, List.all_map, List.all_cons, ← range_all f r]
    rfl
theorem numP_cons2 (c : UInt8) (r : List UInt8) : numP (c :: r) = if c == 45 then r.all isDigit && !r.isEmpty else (c :: r).all isDigit := by
  unfold numP; rw [trimPre]; split
  · rfl
  · simp
theorem numK_numP (many : Bool) (c : UInt8) (r : List UInt8) (hm : many = decide (1 < (c :: r).length)) : numK many (c :: r) (c :: r).length = numP (c :: r) := by
  unfold numK
  rw [List.length_cons, List.range_succ_eq_map, List.all_cons, List.all_map]
  have e : (List.range r.length).all ((fun j => okAt many j ((c :: r).getD j 0)) ∘ Nat.succ) = r.all isDigit := by
    rw [← range_all isDigit r]
    congr 1
    funext j
    simp [okAt]
  rw [e, numP_cons2]
  by_cases hc : c == 45
  · have hc2 : c = 45 := by simpa using hc
    subst hc2
    rw [if_pos hc, hm]
    have : okAt (decide (1 < (45 :: r : List UInt8).length)) 0 ((45 :: r).getD 0 0) = !r.isEmpty := by
      cases r <;> simp [okAt, isDigit]
    rw [this, Bool.and_comm]
  · rw [if_neg hc, List.all_cons]
    congr 1
    show (isDigit c || (0 == 0 && c == 45 && many)) = isDigit c
    rw [show (c == 45) = false from by simpa using hc]; simp
theorem val_small (c : UInt8) (r : List UInt8) (hn : numP (c :: r) = true) (hl : (c :: r).length ≤ 12) : ¬ (13 < (c :: r).length ∨ valP (c :: r) ≤ -1099511627776 ∨ 1099511627776 ≤ valP (c :: r)) := by
  have key : ∀ l : List UInt8, l.all isDigit = true → l.length ≤ 12 → magP l < 1000000000000 := by
    intro l h hl
    have h1 : 10 ^ l.length ≤ 10 ^ 12 := Nat.pow_le_pow_right (by omega) hl
    have := (parse_dig l 0 h (by omega)).2
    unfold magP
    omega
  rw [numP_cons2] at hn
  simp only [List.length_cons] at hl
  by_cases hc : c == 45
  · have hc2 : c = 45 := by simpa using hc
    subst hc2
    rw [if_pos hc, Bool.and_eq_true] at hn
    have := key r hn.1 (by omega)
    show ¬ (13 < (45 :: r : List UInt8).length ∨ -(magP r : Int) ≤ -1099511627776 ∨ 1099511627776 ≤ -(magP r : Int))
    simp only [List.length_cons]
    omega
  · rw [if_neg hc] at hn
    have := key (c :: r) hn (by rw [List.length_cons]; omega)
    have hv : valP (c :: r) = (magP (c :: r) : Int) := by
      unfold valP; split
      · rename_i h; injection h with h1 _; subst h1; exact absurd rfl hc
      · rfl
    rw [hv, List.length_cons]
    omega
/-- what a name's token may be -/
theorem names_law (c : UInt8) (r : List UInt8) (h : ∀ x ∈ c :: r, isLetter x = true) :
    (numP (c :: r) = true ∧ ((∃ v, lexL 0 (c :: r) = .ok [⟨4, 0, v, []⟩]) ∨ (12 < (c :: r).length ∧ lexL 0 (c :: r) = .error (0, 51)))) ∨
    (numP (c :: r) = false ∧ 32 < (c :: r).length ∧ lexL 0 (c :: r) = .error (0, 3)) ∨
    (numP (c :: r) = false ∧ (c :: r).length ≤ 32 ∧ lexL 0 (c :: r) = .ok [⟨6, 0, 0, c :: r⟩]) := by
  rw [lex_letters c r h]
  unfold tokP
  by_cases hn : numP (c :: r) = true
  · refine .inl ⟨hn, ?_⟩
    rw [if_pos hn]
    by_cases hb : 13 < (c :: r).length ∨ valP (c :: r) ≤ -1099511627776 ∨ 1099511627776 ≤ valP (c :: r)
    · rw [if_pos hb]
      refine .inr ⟨?_, rfl⟩
      by_cases h12 : 12 < (c :: r).length
      · exact h12
      · exact absurd hb (val_small c r hn (by omega))
    · rw [if_neg hb]; exact .inl ⟨_, rfl⟩
  · rw [if_neg hn]
    have hn2 : numP (c :: r) = false := by simpa using hn
    by_cases h32 : 32 < (c :: r).length
    · rw [if_pos h32]; exact .inr (.inl ⟨hn2, h32, rfl⟩)
    · rw [if_neg h32]; exact .inr (.inr ⟨hn2, by omega, rfl⟩)
open Go.Lib
/-- a digit as it is written -/
def digB (d : Nat) : UInt8 := UInt8.ofNat (48 + d)
/-- a number as it is written -/
def decN : Nat → Nat → List UInt8
  | 0, _ => []
  | f + 1, n => if n < 10 then [digB n] else decN f (n / 10) ++ [digB (n % 10)]
def digL (v : Int) : List UInt8 := if v < 0 then 45 :: decN 14 v.natAbs else decN 14 v.natAbs
/-- a token as it is written -/
def textL (t : Tok) : List UInt8 := if t.kind = 1 then [40] else if t.kind = 2 then [41] else if t.kind = 3 then [39] else if t.kind = 4 then digL t.n else if t.kind = 5 then (if t.n = 1 then [35, 116] else [35, 102]) else t.s
theorem dig_byte (d : Nat) (h : d < 10) : isDigit (digB d) = true ∧ (digB d).toNat = 48 + d ∧ digB d ≠ 45 := by
  have key : ∀ d < 10, isDigit (digB d) = true ∧ (digB d).toNat = 48 + d ∧ digB d ≠ 45 := by decide
  exact key d h
/-- digits make the number -/
theorem decN_ok : ∀ (f n : Nat), n < 10 ^ f → (decN f n).all isDigit = true ∧ (decN f n).foldl (fun a c => a * 10 + (c.toNat - 48)) 0 = n ∧ (0 < f → decN f n ≠ [])
  | 0, n, h => by
    have : n = 0 := by simpa using h
    subst this
    exact ⟨rfl, rfl, fun h => absurd h (Nat.lt_irrefl 0)⟩
  | f + 1, n, h => by
    unfold decN
    by_cases h10 : n < 10
    · rw [if_pos h10]
      obtain ⟨h1, h2, _⟩ := dig_byte n h10
      refine ⟨by rw [List.all_cons, h1]; rfl, ?_, fun _ => by simp⟩
      simp only [List.foldl_cons, List.foldl_nil, h2]
      omega
    · rw [if_neg h10]
      have hlt : n / 10 < 10 ^ f := by rw [Nat.pow_succ] at h; omega
      obtain ⟨g1, g2, g3⟩ := decN_ok f (n / 10) hlt
      obtain ⟨h1, h2, _⟩ := dig_byte (n % 10) (by omega)
      refine ⟨by rw [List.all_append, g1, List.all_cons, h1]; rfl, ?_, fun _ => by simp⟩
      rw [List.foldl_append, g2]
      simp only [List.foldl_cons, List.foldl_nil, h2]
      omega
theorem decN_len : ∀ (f n k : Nat), 0 < k → n < 10 ^ k → (decN f n).length ≤ k
  | 0, n, k, hk, h => by simp [decN]
  | f + 1, n, k, hk, h => by
    unfold decN
    by_cases h10 : n < 10
    · rw [if_pos h10, List.length_singleton]; omega
    · rw [if_neg h10]
      match k, hk with
      | k + 1, _ =>
        rw [Nat.pow_succ] at h
        have hk0 : 0 < k := by
          match k with
          | 0 => simp at h; omega
          | k + 1 => omega
        have := decN_len f (n / 10) k hk0 (by omega)
        simp; omega
theorem digits_letters (l : List UInt8) (h : l.all isDigit = true) : ∀ x ∈ l, isLetter x = true := by
  intro x hx
  have := List.all_eq_true.1 h x hx
  unfold isLetter
  unfold isDigit at this
  rw [this]; simp
/-- a token that is read again -/
def Again (t : Tok) : Prop := ∃ c r, textL t = c :: r ∧ isBlank c = false ∧ (c == 59) = false ∧ firstP (c :: r) = .ok ((t.kind, t.n, t.s), (c :: r).length)
theorem first_word (c : UInt8) (r : List UInt8) (h : ∀ x ∈ c :: r, isLetter x = true) {t : Int × Int × List UInt8} (ht : tokP (c :: r) = .ok t) : isBlank c = false ∧ (c == 59) = false ∧ firstP (c :: r) = .ok (t, (c :: r).length) := by
  obtain ⟨h1, h2, h3, h4, h5, h6⟩ := letter_not c (h c (by simp))
  have hw : word (c :: r) = c :: r := tw_all isLetter _ h
  refine ⟨h1, h2, ?_⟩
  rw [firstP_eq, if_neg (by simp [h3]), if_neg (by simp [h4]), if_neg (by simp [h5]), if_neg (by simp [h6]), hw, if_neg (by simp), ht]
theorem word_letters (l : List UInt8) : ∀ x ∈ word l, isLetter x = true := by
  unfold word
  induction l with
  | nil => intro x h; cases h
  | cons c r ih =>
    intro x hx
    rw [List.takeWhile_cons] at hx
    split at hx
    · rename_i hc
      rcases List.mem_cons.1 hx with rfl | h
      · exact hc
      · exact ih x h
    · cases hx
theorem tok_again (w : List UInt8) (hw : ∀ x ∈ w, isLetter x = true) (hne : w ≠ []) (p : Int) {t : Int × Int × List UInt8} (ht : tokP w = .ok t) : Again ⟨t.1, p, t.2.1, t.2.2⟩ := by
  unfold tokP at ht
  split at ht
  · rename_i hn
    split at ht
    · cases ht
    · rename_i hb
      injection ht with ht
      subst ht
      have hv : ¬ 13 < w.length ∧ ¬ valP w ≤ -1099511627776 ∧ ¬ 1099511627776 ≤ valP w := ⟨fun h => hb (.inl h), fun h => hb (.inr (.inl h)), fun h => hb (.inr (.inr h))⟩
      obtain ⟨v1, v2, v3⟩ := hv
      -- the number, and how many digits it has
      have key : ∃ c r, digL (valP w) = c :: r ∧ (∀ x ∈ c :: r, isLetter x = true) ∧ tokP (c :: r) = .ok (4, valP w, []) := by
        have hN : (valP w).natAbs < 1099511627776 := by omega
        have hd := decN_ok 14 (valP w).natAbs (by omega)
        obtain ⟨d1, d2, d3⟩ := hd
        have d3 := d3 (by omega)
        have hmag : magP (decN 14 (valP w).natAbs) = (valP w).natAbs := d2
        have hl13 := decN_len 14 (valP w).natAbs 13 (by omega) (by omega)
        obtain ⟨c, r, hcr⟩ := List.exists_cons_of_ne_nil d3
        have hlet := digits_letters _ d1
        rw [hcr] at hlet d1 hmag hl13
        have hc45 : c ≠ 45 := by
          intro h; subst h; simp [isDigit] at d1
        by_cases hneg : valP w < 0
        · -- a sign ahead: twelve digits at most
          have h12 : (valP w).natAbs < 10 ^ 12 := by
            cases w with
            | nil => simp [valP, magP] at hneg
            | cons x y =>
              by_cases hx : x = 45
              · subst hx
                have hy : y.all isDigit = true := by
                  rw [numP_cons2, if_pos (by rfl), Bool.and_eq_true] at hn; exact hn.1
                have hyl : y.length ≤ 12 := by simp at v1; omega
                have h1 : 10 ^ y.length ≤ 10 ^ 12 := Nat.pow_le_pow_right (by omega) hyl
                have := (parse_dig y 0 hy (by omega)).2
                have hvv : valP (45 :: y) = -(magP y : Int) := rfl
                rw [hvv]
                unfold magP
                omega
              · have hvv : valP (x :: y) = (magP (x :: y) : Int) := by
                  unfold valP; split
                  · rename_i h; injection h with h1 _; exact absurd h1 hx
                  · rfl
                rw [hvv] at hneg; omega
          have hl12 := decN_len 14 (valP w).natAbs 12 (by omega) h12
          rw [hcr] at hl12
          refine ⟨45, c :: r, by unfold digL; rw [if_pos hneg, hcr], ?_, ?_⟩
          · intro x hx
            rcases List.mem_cons.1 hx with rfl | h
            · decide
            · exact hlet x h
          · have hnp : numP (45 :: c :: r) = true := by rw [numP_cons2, if_pos (by rfl), d1]; rfl
            have hvv : valP (45 :: c :: r) = valP w := by
              show -(magP (c :: r) : Int) = valP w
              rw [hmag]; omega
            unfold tokP
            rw [if_pos hnp, hvv, if_neg (by simp only [List.length_cons] at hl12 ⊢; omega)]
        · refine ⟨c, r, by unfold digL; rw [if_neg hneg, hcr], hlet, ?_⟩
          have hnp : numP (c :: r) = true := by
            rw [numP_cons2, if_neg (by simpa using hc45)]; exact d1
          have hvv : valP (c :: r) = valP w := by
            have : valP (c :: r) = (magP (c :: r) : Int) := by
              unfold valP; split
              · rename_i h; injection h with h1 _; exact absurd h1 hc45
              · rfl
            rw [this, hmag]; omega
          unfold tokP
          rw [if_pos hnp, hvv, if_neg (by omega)]
      obtain ⟨c, r, h1, h2, h3⟩ := key
      obtain ⟨g1, g2, g3⟩ := first_word c r h2 h3
      exact ⟨c, r, h1, g1, g2, g3⟩
  · rename_i hn
    split at ht
    · cases ht
    · rename_i hl
      injection ht with ht
      subst ht
      obtain ⟨c, r, rfl⟩ := List.exists_cons_of_ne_nil hne
      have h3 : tokP (c :: r) = .ok (6, 0, c :: r) := by unfold tokP; rw [if_neg hn, if_neg hl]
      obtain ⟨g1, g2, g3⟩ := first_word c r hw h3
      exact ⟨c, r, rfl, g1, g2, g3⟩
/-- what is read of a text is read again, and stands in it -/
theorem first_again (c : UInt8) (r : List UInt8) (p : Int) {t : Int × Int × List UInt8} {n : Nat} (h : firstP (c :: r) = .ok (t, n)) : Again ⟨t.1, p, t.2.1, t.2.2⟩ ∧ (t.1 ≠ 4 → (c :: r).take n = textL ⟨t.1, p, t.2.1, t.2.2⟩) ∧ (t.1 = 4 → -1099511627776 < t.2.1 ∧ t.2.1 < 1099511627776) ∧ 1 ≤ t.1 ∧ t.1 ≤ 6 := by
  rw [firstP_eq] at h
  by_cases h40 : (c == 40) = true
  · rw [if_pos h40] at h
    injection h with h; injection h with h1 h2; subst h1; subst h2
    have : c = 40 := by simpa using h40
    subst this
    exact ⟨⟨40, [], rfl, rfl, rfl, rfl⟩, fun _ => rfl, fun h => absurd h (by decide), by decide⟩
  rw [if_neg h40] at h
  by_cases h41 : (c == 41) = true
  · rw [if_pos h41] at h
    injection h with h; injection h with h1 h2; subst h1; subst h2
    have : c = 41 := by simpa using h41
    subst this
    exact ⟨⟨41, [], rfl, rfl, rfl, rfl⟩, fun _ => rfl, fun h => absurd h (by decide), by decide⟩
  rw [if_neg h41] at h
  by_cases h39 : (c == 39) = true
  · rw [if_pos h39] at h
    injection h with h; injection h with h1 h2; subst h1; subst h2
    have : c = 39 := by simpa using h39
    subst this
    exact ⟨⟨39, [], rfl, rfl, rfl, rfl⟩, fun _ => rfl, fun h => absurd h (by decide), by decide⟩
  rw [if_neg h39] at h
  by_cases h35 : (c == 35) = true
  · rw [if_pos h35] at h
    have hc : c = 35 := by simpa using h35
    subst hc
    have two : ∀ b : UInt8, word r = [b] → r.take 1 = [b] := fun b hb => by
      have := tw_take isLetter r
      rw [show r.takeWhile isLetter = word r from rfl, hb] at this
      simpa using this
    by_cases hT : word r = [116]
    · rw [if_pos hT] at h
      injection h with h; injection h with h1 h2; subst h1; subst h2
      refine ⟨⟨35, [116], rfl, rfl, rfl, rfl⟩, fun _ => ?_, fun h => absurd h (by decide), by decide⟩
      rw [List.take_succ_cons, two _ hT]; rfl
    · rw [if_neg hT] at h
      by_cases hF : word r = [102]
      · rw [if_pos hF] at h
        injection h with h; injection h with h1 h2; subst h1; subst h2
        refine ⟨⟨35, [102], rfl, rfl, rfl, rfl⟩, fun _ => ?_, fun h => absurd h (by decide), by decide⟩
        rw [List.take_succ_cons, two _ hF]; rfl
      · rw [if_neg hF] at h; cases h
  rw [if_neg h35] at h
  by_cases hw : word (c :: r) = []
  · rw [if_pos hw] at h; cases h
  rw [if_neg hw] at h
  cases ht : tokP (word (c :: r)) with
  | error e => rw [ht] at h; cases h
  | ok t2 =>
    rw [ht] at h
    injection h with h; injection h with h1 h2; subst h1; subst h2
    have hk := tw_take isLetter (c :: r)
    have hb : (t2.1 = 4 → -1099511627776 < t2.2.1 ∧ t2.2.1 < 1099511627776) ∧ 1 ≤ t2.1 ∧ t2.1 ≤ 6 := by
      unfold tokP at ht
      split at ht
      · split at ht
        · cases ht
        · rename_i hb
          injection ht with ht; subst ht
          exact ⟨fun _ => ⟨by simp only; omega, by simp only; omega⟩, by simp only; omega⟩
      · split at ht
        · cases ht
        · injection ht with ht; subst ht; exact ⟨fun h => absurd h (by simp), by simp⟩
    refine ⟨tok_again _ (word_letters _) hw p ht, fun h4 => ?_, hb⟩
    have : t2 = (6, 0, word (c :: r)) := by
      unfold tokP at ht
      split at ht
      · split at ht
        · cases ht
        · injection ht with ht; subst ht; exact absurd rfl h4
      · split at ht
        · cases ht
        · injection ht with ht; exact ht.symm
    subst this
    exact hk
/-- tokens as they are written, with a blank behind each -/
def againL (ts : List Tok) : List UInt8 := ts.flatMap fun t => textL t ++ [32]
def wantL : Nat → List Tok → List Tok
  | _, [] => []
  | p, t :: r => ⟨t.kind, (p : Int), t.n, t.s⟩ :: wantL (p + ((textL t).length + 1)) r
theorem lex_again : ∀ (ts : List Tok) (p : Nat), (∀ t ∈ ts, Again t) → lexL p (againL ts) = .ok (wantL p ts)
  | [], p, _ => rfl
  | t :: ts, p, h => by
    obtain ⟨c, r, h1, h2, h3, h4⟩ := h t (by simp)
    have e : againL (t :: ts) = c :: (r ++ 32 :: againL ts) := by
      show (textL t ++ [32]) ++ againL ts = _
      rw [h1]; simp
    rw [e, lexL_tok p c _ (pass_fix c _ h2 h3), firstP_app c r _ (.inr ⟨32, againL ts, rfl, by decide⟩), h4]
    have hd : (c :: (r ++ 32 :: againL ts)).drop (c :: r).length = 32 :: againL ts := by
      rw [show c :: (r ++ 32 :: againL ts) = (c :: r) ++ 32 :: againL ts from rfl, List.drop_left]
    simp only
    have hnl : lexL (p + (c :: r).length) (32 :: againL ts) = lexL (p + (c :: r).length + 1) (againL ts) := by
      have hl := pass_le false (againL ts)
      generalize p + (c :: r).length = q
      rw [lexL_pass, lexL_pass (q + 1), show pass false (32 :: againL ts) = pass false (againL ts) from by rw [pass_f]; rfl, List.length_cons, show q + ((againL ts).length + 1 - (pass false (againL ts)).length) = q + 1 + ((againL ts).length - (pass false (againL ts)).length) from by omega]
    rw [hd, hnl, lex_again ts _ (fun t ht => h t (by simp [ht]))]
    show _ = Except.ok (wantL p (t :: ts))
    rw [wantL, h1]
    rfl
/-- how tokens stand in a text: each behind the last, where it says, and read again -/
def Stand (full : List UInt8) : Int → List Tok → Prop
  | _, [] => True
  | last, t :: r => last < t.pos ∧ t.pos < full.length ∧ Again t ∧ ((t.kind = 4 → -1099511627776 < t.n ∧ t.n < 1099511627776) ∧ 1 ≤ t.kind ∧ t.kind ≤ 6) ∧ (t.kind ≠ 4 → t.pos + (textL t).length ≤ full.length ∧ (full.drop t.pos.toNat).take (textL t).length = textL t) ∧ Stand full t.pos r
theorem stand_ok (full : List UInt8) : ∀ (n i : Nat) (ts : List Tok) (last : Int), full.length - i ≤ n → last < i → i ≤ full.length → lexL i (full.drop i) = .ok ts → Stand full last ts
  | n, i, ts, last, hn, hlast, hi, h => by
    rw [lexL_pass] at h
    have hl := pass_le false (full.drop i)
    have hs := pass_suffix false (full.drop i)
    rw [List.drop_drop] at hs
    rw [List.length_drop] at h hl hs
    generalize hj : i + (full.length - i - (pass false (full.drop i)).length) = j at h hs
    cases hp : pass false (full.drop i) with
    | nil => rw [hp, lexL_nil] at h; injection h with h; subst h; trivial
    | cons c r =>
      have hh := pass_head false _ c r hp
      rw [hp] at h hl hs hj
      simp only [List.length_cons] at hl hj
      rw [lexL_tok _ c r (pass_fix c r hh.1 hh.2)] at h
      cases hf : firstP (c :: r) with
      | error e => rw [hf] at h; cases h
      | ok x =>
        obtain ⟨t0, k⟩ := x
        have hk := firstP_pos hf
        rw [hf] at h
        simp only at h
        rw [hs, List.drop_drop] at h
        match n, hn with
        | 0, hn => omega
        | n + 1, hn =>
          cases hr : lexL (j + k) (full.drop (j + k)) with
          | error e => rw [hr] at h; cases h
          | ok ts' =>
            rw [hr] at h
            injection h with h
            subst h
            obtain ⟨a1, a2, a4⟩ := first_again c r (j : Int) hf
            refine ⟨by simp only; omega, by simp only; omega, a1, a4, fun h4 => ?_, stand_ok full n (j + k) ts' (j : Int) (by omega) (by omega) (by omega) hr⟩
            have a3 := a2 h4
            have hlen : (textL ⟨t0.1, (j : Int), t0.2.1, t0.2.2⟩).length = k := by
              rw [← a3, List.length_take, List.length_cons]; omega
            refine ⟨by simp only [hlen]; omega, ?_⟩
            rw [hlen, Int.toNat_natCast, ← hs]
            exact a3
theorem stand_again (full : List UInt8) : ∀ (ts : List Tok) (last : Int), Stand full last ts → ∀ t ∈ ts, Again t
  | [], _, _, t, ht => by cases ht
  | t0 :: ts, last, h, t, ht => by
    obtain ⟨_, _, h3, _, _, h5⟩ := h
    rcases List.mem_cons.1 ht with rfl | ht
    · exact h3
    · exact stand_again full ts _ h5 t ht
theorem wantL_app : ∀ (a b : List Tok) (p : Nat), wantL p (a ++ b) = wantL p a ++ wantL (p + (againL a).length) b
  | [], b, p => rfl
  | t :: a, b, p => by
    show _ :: wantL _ (a ++ b) = _
    rw [wantL_app a b]
    have e : (againL (t :: a)).length = (textL t).length + 1 + (againL a).length := by
      show ((textL t ++ [32]) ++ againL a).length = _
      simp; omega
    rw [e, Nat.add_assoc, Nat.add_assoc]
    rfl
theorem wantL_len : ∀ (a : List Tok) (p : Nat), (wantL p a).length = a.length
  | [], _ => rfl
  | t :: a, p => by rw [wantL, List.length_cons, wantL_len a, List.length_cons]
theorem decN_le : ∀ f n : Nat, (decN f n).length ≤ f
  | 0, n => by simp [decN]
  | f + 1, n => by
    have := decN_le f (n / 10)
    unfold decN
    split <;> simp <;> omega
theorem text_len (full : List UInt8) (t : Tok) (h : t.kind ≠ 4 → t.pos + (textL t).length ≤ full.length) (h0 : 0 ≤ t.pos) : (textL t).length ≤ full.length + 15 := by
  by_cases h4 : t.kind = 4
  · have := decN_le 14 t.n.natAbs
    unfold textL
    rw [h4, if_neg (by decide), if_neg (by decide), if_neg (by decide), if_pos rfl]
    unfold digL
    split <;> simp <;> omega
  · have := h h4
    omega
end Go.Proofs.YthfbkhjcnfjmmaaDoor.LexP

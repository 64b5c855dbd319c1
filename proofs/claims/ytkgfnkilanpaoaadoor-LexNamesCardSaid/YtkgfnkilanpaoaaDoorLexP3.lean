/- Plain laws of texts behind each other (lex); each states its conditions. -/
import Derived.Test.YtkgfnkilanpaoaaDoorLexP2
namespace Go.Proofs.YtkgfnkilanpaoaaDoor.LexP
open Go.Lib
/-- tokens from a place on, in a remark or not -/
def fromM (b : Bool) (i : Nat) (l : List UInt8) : Except (Nat × Int) (List Tok) := lexL (i + (l.length - (pass b l).length)) (pass b l)
theorem fromM_f (i : Nat) (l : List UInt8) : fromM false i l = lexL i l := (lexL_pass i l).symm
theorem pass_app : ∀ (m : Bool) (a b : List UInt8), (pass m a ≠ [] → pass m (a ++ b) = pass m a ++ b) ∧ (pass m a = [] → ∃ m', pass m (a ++ b) = pass m' b)
  | m, [], b => ⟨fun h => absurd (pass_nil m) h, fun _ => ⟨m, rfl⟩⟩
  | true, c :: r, b => by
    rw [List.cons_append, pass_t, pass_t]
    split
    · exact pass_app false r b
    · exact pass_app true r b
  | false, c :: r, b => by
    rw [List.cons_append, pass_f, pass_f]
    split
    · exact pass_app false r b
    · split
      · exact pass_app true r b
      · exact ⟨fun _ => rfl, fun h => by cases h⟩
/-- a word ends ahead of b -/
def WEnds (b : List UInt8) : Prop := b = [] ∨ ∃ c r, b = c :: r ∧ isLetter c = false
theorem word_app (a b : List UInt8) (h : WEnds b) : word (a ++ b) = word a := by
  unfold word
  induction a with
  | nil =>
    rcases h with rfl | ⟨c, r, rfl, hc⟩
    · rfl
    · rw [List.nil_append, List.takeWhile_cons, if_neg (by simp [hc])]; rfl
  | cons x a ih => rw [List.cons_append, List.takeWhile_cons, List.takeWhile_cons, ih]
theorem firstP_app (c : UInt8) (r b : List UInt8) (h : WEnds b) : firstP (c :: (r ++ b)) = firstP (c :: r) := by
  rw [firstP_eq, firstP_eq, word_app r b h, show c :: (r ++ b) = (c :: r) ++ b from rfl, word_app (c :: r) b h]
/-- a text, and another behind it -/
theorem lex_app (b : List UInt8) (hb : WEnds b) : ∀ (n i : Nat) (a : List UInt8), a.length ≤ n → ∃ m, lexL i (a ++ b) = match lexL i a with
    | .error e => .error e
    | .ok ts => comb ts (fromM m (i + a.length) b)
  | n, i, a, hn => by
    obtain ⟨p1, p2⟩ := pass_app false a b
    cases hp : pass false a with
    | nil =>
      obtain ⟨m, hm⟩ := p2 hp
      refine ⟨m, ?_⟩
      have hl := pass_le m b
      rw [lexL_pass i a, hp, lexL_nil, lexL_pass i (a ++ b), hm, List.length_append, show i + (a.length + b.length - (pass m b).length) = i + a.length + (b.length - (pass m b).length) from by omega]
      show _ = comb [] _
      unfold fromM
      cases lexL (i + a.length + (b.length - (pass m b).length)) (pass m b) <;> rfl
    | cons c r =>
      have h1 := p1 (by rw [hp]; simp)
      have hl := pass_le false a
      have hh := pass_head false a c r hp
      rw [hp] at h1 hl
      simp only [List.length_cons] at hl
      have hi : i + ((a ++ b).length - (pass false (a ++ b)).length) = i + (a.length - (r.length + 1)) := by rw [h1]; simp; omega
      rw [lexL_pass i a, lexL_pass i (a ++ b), hi, hp, h1, List.length_cons]
      generalize hj : i + (a.length - (r.length + 1)) = j
      have hij : i + a.length = j + (r.length + 1) := by omega
      rw [show (c :: r) ++ b = c :: (r ++ b) from rfl, lexL_tok j c (r ++ b) (pass_fix c _ hh.1 hh.2), lexL_tok j c r (pass_fix c r hh.1 hh.2), firstP_app c r b hb]
      cases hf : firstP (c :: r) with
      | error e => exact ⟨true, rfl⟩
      | ok x =>
        obtain ⟨t, k⟩ := x
        have hk := firstP_pos hf
        match n, hn with
        | 0, hn => omega
        | n + 1, hn =>
          obtain ⟨m, hm⟩ := lex_app b hb n (j + k) ((c :: r).drop k) (by rw [List.length_drop, List.length_cons]; omega)
          refine ⟨m, ?_⟩
          have hd : (c :: (r ++ b)).drop k = (c :: r).drop k ++ b := by
            rw [show c :: (r ++ b) = (c :: r) ++ b from rfl, List.drop_append_of_le_length (by rw [List.length_cons]; omega)]
          simp only
          rw [hd, hm, hij, show j + k + ((c :: r).drop k).length = j + (r.length + 1) from by rw [List.length_drop, List.length_cons]; omega]
          cases lexL (j + k) ((c :: r).drop k) with
          | error e => rfl
          | ok ts => simp only; cases fromM m (j + (r.length + 1)) b <;> rfl
/-- where tokens stand -/
theorem lexL_pos : ∀ (n i : Nat) (l : List UInt8) (ts : List Tok), l.length ≤ n → lexL i l = .ok ts → ∀ t ∈ ts, (i : Int) ≤ t.pos ∧ t.pos < (i + l.length : Nat)
  | n, i, l, ts, hn, h, t, ht => by
    rw [lexL_pass] at h
    have hl := pass_le false l
    cases hp : pass false l with
    | nil => rw [hp, lexL_nil] at h; injection h with h; subst h; cases ht
    | cons c r =>
      have hh := pass_head false l c r hp
      rw [hp] at h hl
      simp only [List.length_cons] at hl
      rw [List.length_cons, lexL_tok _ c r (pass_fix c r hh.1 hh.2)] at h
      cases hf : firstP (c :: r) with
      | error e => rw [hf] at h; cases h
      | ok x =>
        obtain ⟨t0, k⟩ := x
        have hk := firstP_pos hf
        rw [hf] at h
        simp only at h
        match n, hn with
        | 0, hn => omega
        | n + 1, hn =>
          cases hr : lexL (i + (l.length - (r.length + 1)) + k) ((c :: r).drop k) with
          | error e => rw [hr] at h; cases h
          | ok ts' =>
            rw [hr] at h
            injection h with h
            subst h
            rcases List.mem_cons.1 ht with rfl | ht
            · exact ⟨by simp only; omega, by simp only; omega⟩
            · have := lexL_pos n _ _ ts' (by rw [List.length_drop, List.length_cons]; omega) hr t ht
              rw [List.length_drop, List.length_cons] at this
              omega
def shift (d : Nat) (t : Tok) : Tok := ⟨t.kind, t.pos + d, t.n, t.s⟩
/-- further behind -/
theorem lexL_shift (d : Nat) : ∀ (n i : Nat) (l : List UInt8), l.length ≤ n → lexL (i + d) l = match lexL i l with
    | .error (j, e) => .error (j + d, e)
    | .ok ts => .ok (ts.map (shift d))
  | n, i, l, hn => by
    rw [lexL_pass, lexL_pass i l]
    have hl := pass_le false l
    cases hp : pass false l with
    | nil => rw [lexL_nil, lexL_nil]; rfl
    | cons c r =>
      have hh := pass_head false l c r hp
      rw [hp] at hl
      simp only [List.length_cons] at hl
      rw [List.length_cons, show i + d + (l.length - (r.length + 1)) = i + (l.length - (r.length + 1)) + d from by omega]
      generalize i + (l.length - (r.length + 1)) = j
      rw [lexL_tok _ c r (pass_fix c r hh.1 hh.2), lexL_tok _ c r (pass_fix c r hh.1 hh.2)]
      cases hf : firstP (c :: r) with
      | error e => rfl
      | ok x =>
        obtain ⟨t0, k⟩ := x
        have hk := firstP_pos hf
        match n, hn with
        | 0, hn => omega
        | n + 1, hn =>
          have ih := lexL_shift d n (j + k) ((c :: r).drop k) (by rw [List.length_drop, List.length_cons]; omega)
          simp only
          rw [show j + d + k = j + k + d from by omega, ih]
          cases lexL (j + k) ((c :: r).drop k) with
          | error e => rfl
          | ok ts => simp [shift]
theorem lexL_err : ∀ (n i : Nat) (l : List UInt8) (j : Nat) (e : Int), l.length ≤ n → lexL i l = .error (j, e) → e ≠ 0
  | n, i, l, j, e, hn, h => by
    rw [lexL_pass] at h
    have hl := pass_le false l
    cases hp : pass false l with
    | nil => rw [hp, lexL_nil] at h; cases h
    | cons c r =>
      have hh := pass_head false l c r hp
      rw [hp] at h hl
      simp only [List.length_cons] at hl
      rw [List.length_cons, lexL_tok _ c r (pass_fix c r hh.1 hh.2)] at h
      cases hf : firstP (c :: r) with
      | error e2 =>
        rw [hf] at h
        injection h with h
        injection h with _ h
        subst h
        exact firstP_err hf
      | ok x =>
        obtain ⟨t0, k⟩ := x
        have hk := firstP_pos hf
        rw [hf] at h
        simp only at h
        match n, hn with
        | 0, hn => omega
        | n + 1, hn =>
          cases hr : lexL (i + (l.length - (r.length + 1)) + k) ((c :: r).drop k) with
          | error x =>
            obtain ⟨j2, e2⟩ := x
            rw [hr] at h
            injection h with h
            injection h with _ h
            subst h
            exact lexL_err n _ _ _ _ (by rw [List.length_drop, List.length_cons]; omega) hr
          | ok ts' => rw [hr] at h; cases h
theorem fromM_err {m : Bool} {i : Nat} {l : List UInt8} {j : Nat} {e : Int} (h : fromM m i l = .error (j, e)) : e ≠ 0 := lexL_err _ _ _ _ _ (Nat.le_refl _) h
theorem fromM_pos {m : Bool} {i : Nat} {l : List UInt8} {ts : List Tok} (h : fromM m i l = .ok ts) : ∀ t ∈ ts, (i : Int) ≤ t.pos := fun t ht => by
  have := (lexL_pos _ _ _ _ (Nat.le_refl _) h t ht).1
  omega
theorem lexF_eq {l : List UInt8} (h : l.length ≤ 4000) : lexF l = lexL 0 l := by unfold lexF; rw [if_neg (by omega)]
theorem lexL_errpos : ∀ (n i : Nat) (l : List UInt8) (j : Nat) (e : Int), l.length ≤ n → lexL i l = .error (j, e) → i ≤ j ∧ j < i + l.length
  | n, i, l, j, e, hn, h => by
    rw [lexL_pass] at h
    have hl := pass_le false l
    cases hp : pass false l with
    | nil => rw [hp, lexL_nil] at h; cases h
    | cons c r =>
      have hh := pass_head false l c r hp
      rw [hp] at h hl
      simp only [List.length_cons] at hl
      rw [List.length_cons, lexL_tok _ c r (pass_fix c r hh.1 hh.2)] at h
      cases hf : firstP (c :: r) with
      | error e2 =>
        rw [hf] at h
        injection h with h
        injection h with h _
        subst h
        omega
      | ok x =>
        obtain ⟨t0, k⟩ := x
        have hk := firstP_pos hf
        rw [hf] at h
        simp only at h
        match n, hn with
        | 0, hn => omega
        | n + 1, hn =>
          cases hr : lexL (i + (l.length - (r.length + 1)) + k) ((c :: r).drop k) with
          | error x =>
            obtain ⟨j2, e2⟩ := x
            rw [hr] at h
            injection h with h
            injection h with h _
            subst h
            have := lexL_errpos n _ _ _ _ (by rw [List.length_drop, List.length_cons]; omega) hr
            rw [List.length_drop, List.length_cons] at this
            omega
          | ok ts' => rw [hr] at h; cases h
theorem fromM_nl (m : Bool) (i : Nat) (r : List UInt8) : fromM m i (10 :: r) = lexL (i + 1) r := by
  have h : pass m (10 :: r) = pass false r := by cases m; rw [pass_f]; rfl; rw [pass_t]; rfl
  have hl := pass_le false r
  unfold fromM
  rw [h, lexL_pass (i + 1) r, List.length_cons, show i + (r.length + 1 - (pass false r).length) = i + 1 + (r.length - (pass false r).length) from by omega]
/-- two texts, with a newline between -/
theorem lex_joins (l1 l2 : List UInt8) : lexL 0 (l1 ++ 10 :: l2) = match lexL 0 l1 with
    | .error x => .error x
    | .ok a => match lexL 0 l2 with
      | .error (j, e) => .error (j + (l1.length + 1), e)
      | .ok b => .ok (a ++ b.map (shift (l1.length + 1))) := by
  obtain ⟨m, hm⟩ := lex_app (10 :: l2) (.inr ⟨10, l2, rfl, by decide⟩) l1.length 0 l1 (Nat.le_refl _)
  rw [hm]
  cases lexL 0 l1 with
  | error x => rfl
  | ok a =>
    simp only
    rw [fromM_nl, show 0 + l1.length + 1 = 0 + (l1.length + 1) from by omega, lexL_shift (l1.length + 1) l2.length 0 l2 (Nat.le_refl _)]
    cases lexL 0 l2 with
    | error x => rfl
    | ok b => rfl
/-- what is passed over, piece by piece -/
def piece (q : Nat) : List UInt8 := match q with | 0 => [32] | 1 => [9] | 2 => [10] | _ => [59, 32, 40, 32, 120, 10]
def rep : Nat → List UInt8 → List UInt8
  | 0, _ => []
  | n + 1, p => rep n p ++ p
theorem pass_piece (q : Nat) (l : List UInt8) : pass false (piece q ++ l) = pass false l := by
  unfold piece
  split <;> simp [pass_f, pass_t, isBlank]
theorem pass_rep (q : Nat) : ∀ (n : Nat) (l : List UInt8), pass false (rep n (piece q) ++ l) = pass false l
  | 0, l => rfl
  | n + 1, l => by rw [rep, List.append_assoc, pass_rep q n, pass_piece]
theorem rep_len (q : Nat) : ∀ n : Nat, (rep n (piece q)).length ≤ n * 6
  | 0 => by simp [rep]
  | n + 1 => by
    have := rep_len q n
    have h : (piece q).length ≤ 6 := by unfold piece; split <;> simp
    rw [rep, List.length_append]; omega
theorem passes_ahead (P l : List UInt8) (h : ∀ l, pass false (P ++ l) = pass false l) : lexL 0 (P ++ l) = match lexL 0 l with
    | .error (j, e) => .error (j + P.length, e)
    | .ok ts => .ok (ts.map (shift P.length)) := by
  have hl := pass_le false l
  have h1 := lexL_shift P.length l.length 0 l (Nat.le_refl _)
  rw [lexL_pass 0 (P ++ l), h, List.length_append, show 0 + (P.length + l.length - (pass false l).length) = 0 + P.length + (l.length - (pass false l).length) from by omega, ← lexL_pass (0 + P.length) l]
  exact h1
theorem passes_behind (P l : List UInt8) (h : ∀ l, pass false (P ++ l) = pass false l) : lexL 0 (l ++ 10 :: P) = lexL 0 l := by
  have hP : lexL 0 P = .ok [] := by
    have := h []
    rw [List.append_nil, pass_nil] at this
    rw [lexL_pass, this, lexL_nil]
  rw [lex_joins, hP]
  cases lexL 0 l with
  | error x => rfl
  | ok a => simp
end Go.Proofs.YtkgfnkilanpaoaaDoor.LexP

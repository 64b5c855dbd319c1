import Derived.Test.YtomhkemdafiphaaGreatDoorReadP3
namespace Go.Proofs.YtomhkemdafiphaaGreatDoor.ReadP
open Go.Proofs.YtomhkemdafiphaaGreatDoor.LexP
/-- brackets and quotes, one by one -/
def opB : Nat → List Bool → List Tok
  | _, [] => []
  | i, b :: bs => ⟨if b then 3 else 1, (i : Int), 0, []⟩ :: opB (i + 1) bs
def opX (bs : List Bool) : List UInt8 := bs.map fun b => if b then 39 else 40
def clB : Nat → Nat → List Tok
  | _, 0 => []
  | i, n + 1 => ⟨2, (i : Int), 0, []⟩ :: clB (i + 1) n
theorem opB_app : ∀ (a b : List Bool) (i : Nat), opB i (a ++ b) = opB i a ++ opB (i + a.length) b
  | [], b, i => rfl
  | x :: a, b, i => by
    rw [List.cons_append, opB, opB_app a b (i + 1), opB, List.length_cons, List.cons_append, show i + 1 + a.length = i + (a.length + 1) from by omega]
theorem lex_op : ∀ (bs : List Bool) (i : Nat) (r : List UInt8), lexL i (opX bs ++ r) = comb (opB i bs) (lexL (i + bs.length) r)
  | [], i, r => by
    show lexL i r = comb [] (lexL i r)
    cases lexL i r <;> rfl
  | b :: bs, i, r => by
    have hf : firstP ((if b then 39 else 40) :: (opX bs ++ r)) = .ok ((if b then 3 else 1, 0, []), 1) := by
      rw [firstP_eq]
      cases b <;> rfl
    show lexL i ((if b then 39 else 40) :: (opX bs ++ r)) = _
    rw [lexL_tok i _ _ (pass_fix _ _ (by cases b <;> rfl) (by cases b <;> rfl)), hf]
    show (match lexL (i + 1) (opX bs ++ r) with
      | .error e => Except.error e
      | .ok ts => Except.ok ((⟨if b then 3 else 1, (i : Int), 0, []⟩ : Tok) :: ts)) = _
    rw [lex_op bs (i + 1) r, List.length_cons, show i + 1 + bs.length = i + (bs.length + 1) from by omega]
    cases lexL (i + (bs.length + 1)) r <;> rfl
theorem lex_cl : ∀ (n i : Nat), lexL i (List.replicate n 41) = .ok (clB i n)
  | 0, i => rfl
  | n + 1, i => by
    rw [List.replicate_succ, lexL_tok i _ _ (pass_fix _ _ rfl rfl), firstP_eq]
    show (match lexL (i + 1) (List.replicate n 41) with
      | .error e => Except.error e
      | .ok ts => Except.ok ((⟨2, (i : Int), 0, []⟩ : Tok) :: ts)) = _
    rw [lex_cl n (i + 1)]
    rfl
theorem lex_x (n i : Nat) : lexL i (120 :: List.replicate n 41) = .ok (⟨6, (i : Int), 0, [120]⟩ :: clB (i + 1) n) := by
  have hw : word (120 :: List.replicate n 41) = [120] := by
    unfold word
    cases n with
    | zero => decide
    | succ n => rw [List.replicate_succ]; rfl
  have hf : firstP (120 :: List.replicate n 41) = .ok ((6, 0, [120]), 1) := by
    rw [firstP_eq, hw]
    rfl
  rw [lexL_tok i _ _ (pass_fix _ _ rfl rfl), hf]
  show (match lexL (i + 1) (List.replicate n 41) with
      | .error e => Except.error e
      | .ok ts => Except.ok ((⟨6, (i : Int), 0, [120]⟩ : Tok) :: ts)) = _
  rw [lex_cl n (i + 1)]
/-- one that opens -/
theorem tok_op (row : List Nd) (tops : List Int) (os : List Pt) (i : Nat) (b : Bool) (h : os.length < 50) : ∃ row' o, tokS (row, tops, os) ⟨if b then 3 else 1, (i : Int), 0, []⟩ = .ok (row', tops, o :: os) ∧ o.at_ = i ∧ o.quote = b ∧ (if b then o.l.length = 1 ∧ row'.length = row.length + 1 else row' = row) := by
  cases b with
  | true =>
    refine ⟨row ++ [⟨3, (i : Int), 0, quoteL, []⟩], ⟨(i : Int), true, [(row.length : Int)]⟩, ?_, rfl, rfl, rfl, by simp⟩
    unfold tokS
    simp only [if_true]
    rw [if_neg (by decide), if_neg (by decide), if_neg (by decide), if_neg (by decide), if_neg (by omega)]
    rfl
  | false =>
    refine ⟨row, ⟨(i : Int), false, []⟩, ?_, rfl, rfl, rfl⟩
    unfold tokS
    simp only [Bool.false_eq_true, if_false]
    rw [if_neg (by decide), if_neg (by decide), if_neg (by decide), if_neg (by decide), if_neg (by omega), if_neg (by decide)]
theorem tok_deep (row : List Nd) (tops : List Int) (os : List Pt) (i : Nat) (b : Bool) (h : 50 ≤ os.length) : tokS (row, tops, os) ⟨if b then 3 else 1, (i : Int), 0, []⟩ = .error 62 := by
  cases b with
  | true =>
    unfold tokS
    simp only [if_true]
    rw [if_neg (by decide), if_neg (by decide), if_neg (by decide), if_neg (by decide), if_pos h]
  | false =>
    unfold tokS
    simp only [Bool.false_eq_true, if_false]
    rw [if_neg (by decide), if_neg (by decide), if_neg (by decide), if_neg (by decide), if_pos h]
theorem toks_deep : ∀ (bs : List Bool) (i : Nat) (row : List Nd) (tops : List Int) (os : List Pt) (rest : List Tok), os.length ≤ 50 → 50 < os.length + bs.length → toksS (row, tops, os) (opB i bs ++ rest) = .error (((i + (50 - os.length) : Nat) : Int), 62)
  | [], i, row, tops, os, rest, h1, h2 => by simp at h2; omega
  | b :: bs, i, row, tops, os, rest, h1, h2 => by
    rw [opB, List.cons_append, toksS]
    by_cases h : 50 ≤ os.length
    · rw [tok_deep _ _ _ _ _ h, show i + (50 - os.length) = i from by omega]
    · obtain ⟨row', o, e, _⟩ := tok_op row tops os i b (by omega)
      rw [e]
      simp only
      rw [List.length_cons] at h2
      rw [toks_deep bs (i + 1) row' tops (o :: os) rest (by rw [List.length_cons]; omega) (by rw [List.length_cons]; omega), List.length_cons, show i + 1 + (50 - (os.length + 1)) = i + (50 - os.length) from by omega]
theorem toks_open : ∀ (bs : List Bool) (i : Nat) (row : List Nd) (tops : List Int) (os : List Pt), os.length + bs.length ≤ 50 → ∃ row' os', toksS (row, tops, os) (opB i bs) = .ok (row', tops, os') ∧ os'.length = os.length + bs.length
  | [], i, row, tops, os, h => ⟨row, os, rfl, rfl⟩
  | b :: bs, i, row, tops, os, h => by
    rw [List.length_cons] at h
    obtain ⟨row1, o, e, _⟩ := tok_op row tops os i b (by omega)
    obtain ⟨row', os', e2, h2⟩ := toks_open bs (i + 1) row1 tops (o :: os) (by rw [List.length_cons]; omega)
    rw [List.length_cons] at h2
    refine ⟨row', os', ?_, by rw [List.length_cons]; omega⟩
    rw [opB, toksS, e]
    exact e2
/-- what is open: brackets first, then quotes that have their name -/
def Shape (m q : Nat) (os : List Pt) : Prop := ∃ P Q, os = P ++ Q ∧ P.length = m ∧ Q.length = q ∧ (∀ o ∈ P, o.quote = false) ∧ ∀ o ∈ Q, o.quote = true ∧ o.l.length = 1
theorem toks_q : ∀ (q i : Nat) (row : List Nd) (tops : List Int) (os : List Pt) (q0 : Nat), q0 + q ≤ 50 → Shape 0 q0 os → ∃ row' os', toksS (row, tops, os) (opB i (List.replicate q true)) = .ok (row', tops, os') ∧ Shape 0 (q0 + q) os' ∧ row'.length = row.length + q
  | 0, i, row, tops, os, q0, h, hs => ⟨row, os, rfl, hs, rfl⟩
  | q + 1, i, row, tops, os, q0, h, ⟨P, Q, e1, e2, e3, e4, e5⟩ => by
    obtain rfl : P = [] := List.length_eq_zero_iff.1 e2
    subst e1
    obtain ⟨row1, o, e, ho, hb, hq⟩ := tok_op row tops os i true (by omega)
    obtain ⟨g1, g2⟩ : o.l.length = 1 ∧ row1.length = row.length + 1 := by simpa using hq
    obtain ⟨row', os', k1, k2, k3⟩ := toks_q q (i + 1) row1 tops (o :: os) (q0 + 1) (by omega) ⟨[], o :: os, rfl, rfl, by rw [List.length_cons, e3], fun _ h => (by cases h), fun o' h => by
      rcases List.mem_cons.1 h with rfl | h
      · exact ⟨hb, g1⟩
      · exact e5 o' h⟩
    refine ⟨row', os', ?_, by rw [show q0 + (q + 1) = q0 + 1 + q from by omega]; exact k2, by omega⟩
    rw [List.replicate_succ, opB, toksS, e]
    exact k1
theorem toks_p : ∀ (m i : Nat) (row : List Nd) (tops : List Int) (os : List Pt) (m0 q : Nat), m0 + q + m ≤ 50 → Shape m0 q os → ∃ os', toksS (row, tops, os) (opB i (List.replicate m false)) = .ok (row, tops, os') ∧ Shape (m0 + m) q os'
  | 0, i, row, tops, os, m0, q, h, hs => ⟨os, rfl, hs⟩
  | m + 1, i, row, tops, os, m0, q, h, ⟨P, Q, e1, e2, e3, e4, e5⟩ => by
    subst e1
    obtain ⟨row1, o, e, ho, hb, hq⟩ := tok_op row tops (P ++ Q) i false (by simp; omega)
    obtain rfl : row1 = row := hq
    obtain ⟨os', k1, k2⟩ := toks_p m (i + 1) row1 tops (o :: (P ++ Q)) (m0 + 1) q (by omega) ⟨o :: P, Q, rfl, by rw [List.length_cons, e2], e3, fun o' h => by
      rcases List.mem_cons.1 h with rfl | h
      · exact hb
      · exact e4 o' h, e5⟩
    refine ⟨os', ?_, by rw [show m0 + (m + 1) = m0 + 1 + m from by omega]; exact k2⟩
    rw [List.replicate_succ, opB, toksS, e]
    exact k1
theorem put_q : ∀ (q : Nat) (row : List Nd) (tops : List Int) (os : List Pt) (x : Nd), Shape 0 q os → ∃ row' tops', putS row tops os x = (row', tops', []) ∧ row'.length = row.length + 1 + q ∧ tops'.length = tops.length + 1
  | 0, row, tops, os, x, ⟨P, Q, e1, e2, e3, _, _⟩ => by
    obtain rfl : P = [] := List.length_eq_zero_iff.1 e2
    obtain rfl : Q = [] := List.length_eq_zero_iff.1 e3
    obtain rfl : os = [] := e1
    exact ⟨_, _, rfl, by simp, by simp⟩
  | q + 1, row, tops, os, x, ⟨P, Q, e1, e2, e3, _, e5⟩ => by
    obtain rfl : P = [] := List.length_eq_zero_iff.1 e2
    subst e1
    cases os with
    | nil => simp at e3
    | cons o os =>
      obtain ⟨a, b⟩ := e5 o (List.mem_cons_self ..)
      rw [putS, if_pos (by rw [a, b]; rfl)]
      obtain ⟨row', tops', k1, k2, k3⟩ := put_q q (row ++ [x]) tops os _ ⟨[], os, rfl, rfl, by simpa using e3, fun _ h => (by cases h), fun o' h => e5 o' (List.mem_cons_of_mem _ h)⟩
      exact ⟨row', tops', k1, by rw [k2]; simp; omega, k3⟩
theorem put_p (m q : Nat) (row : List Nd) (tops : List Int) (os : List Pt) (x : Nd) (h : Shape (m + 1) q os) : ∃ os', putS row tops os x = (row ++ [x], tops, os') ∧ Shape (m + 1) q os' := by
  obtain ⟨P, Q, e1, e2, e3, e4, e5⟩ := h
  subst e1
  cases P with
  | nil => simp at e2
  | cons o P =>
    have a := e4 o (List.mem_cons_self ..)
    rw [List.cons_append, putS, if_neg (by rw [a]; simp)]
    refine ⟨_, rfl, ⟨o.at_, o.quote, o.l ++ [(row.length : Int)]⟩ :: P, Q, rfl, by simpa using e2, e3, fun o' h => ?_, e5⟩
    rcases List.mem_cons.1 h with rfl | h
    · exact a
    · exact e4 o' (List.mem_cons_of_mem _ h)
theorem tok_cl (m q : Nat) (row : List Nd) (tops : List Int) (os : List Pt) (i : Nat) (h : Shape (m + 1) q os) : ∃ x os1, tokS (row, tops, os) ⟨2, (i : Int), 0, []⟩ = .ok (putS row tops os1 x) ∧ Shape m q os1 := by
  obtain ⟨P, Q, e1, e2, e3, e4, e5⟩ := h
  subst e1
  cases P with
  | nil => simp at e2
  | cons o P =>
    have a := e4 o (List.mem_cons_self ..)
    refine ⟨⟨4, o.at_, 0, [], o.l⟩, P ++ Q, ?_, P, Q, rfl, by simpa using e2, e3, fun o' h => e4 o' (List.mem_cons_of_mem _ h), e5⟩
    unfold tokS
    rw [if_neg (by simp), if_neg (by simp), if_neg (by simp), if_pos rfl]
    simp only [List.cons_append]
    rw [if_neg (by rw [a]; simp)]
theorem toks_cl : ∀ (m q i : Nat) (row : List Nd) (tops : List Int) (os : List Pt), Shape (m + 1) q os → ∃ row' tops', toksS (row, tops, os) (clB i (m + 1)) = .ok (row', tops', []) ∧ row'.length = row.length + (m + 1) + q ∧ tops'.length = tops.length + 1
  | 0, q, i, row, tops, os, h => by
    obtain ⟨x, os1, e, hs⟩ := tok_cl 0 q row tops os i h
    obtain ⟨row', tops', k1, k2, k3⟩ := put_q q row tops os1 x hs
    refine ⟨row', tops', ?_, by omega, k3⟩
    rw [clB, toksS, e, k1]
    rfl
  | m + 1, q, i, row, tops, os, h => by
    obtain ⟨x, os1, e, hs⟩ := tok_cl (m + 1) q row tops os i h
    obtain ⟨os2, k1, k2⟩ := put_p m q row tops os1 x hs
    obtain ⟨row', tops', g1, g2, g3⟩ := toks_cl m q (i + 1) (row ++ [x]) tops os2 k2
    refine ⟨row', tops', ?_, by rw [g2]; simp; omega, g3⟩
    rw [clB, toksS, e, k1]
    exact g1
def deepB (k q : Nat) : List Bool := List.replicate q true ++ List.replicate (k - q) false
theorem deepB_len {k q : Nat} (h : q ≤ k) : (deepB k q).length = k := by simp [deepB]; omega
/-- too deep -/
theorem deep_big (k q : Nat) (hq : q ≤ k) (hk : 50 < k) (hk2 : k ≤ 60) (r : List UInt8) (ts : List Tok) (hr : lexL k r = .ok ts) (hrl : r.length ≤ 100) : readF (opX (deepB k q) ++ r) = .error (50, 62) := by
  have hl := deepB_len hq
  unfold readF
  rw [lexF_eq (by simp [opX, hl]; omega), lex_op, Nat.zero_add, hl, hr]
  simp only [comb]
  unfold readT
  rw [toks_deep _ 0 [] [] [] ts (by simp) (by rw [hl]; simpa using hk)]
  rfl
theorem deep_ok (k q : Nat) (hq : q ≤ k) (hk : k ≤ 50) : ∃ row tops, readF (opX (deepB k q) ++ 120 :: List.replicate (k - q) 41) = .ok (row, tops) ∧ row.length = 1 + k + q ∧ tops.length = 1 := by
  have hl := deepB_len hq
  unfold readF
  rw [lexF_eq (by simp [opX, hl]; omega), lex_op, Nat.zero_add, hl, lex_x]
  simp only [comb]
  unfold readT
  obtain ⟨row1, os1, a1, a2, a3⟩ := toks_q q 0 [] [] [] 0 (by omega) ⟨[], [], rfl, rfl, rfl, fun _ h => (by cases h), fun _ h => (by cases h)⟩
  obtain ⟨os2, b1, b2⟩ := toks_p (k - q) (0 + (List.replicate q true).length) row1 [] os1 0 q (by omega) (by rw [Nat.zero_add] at a2; exact a2)
  rw [toks_app]
  unfold deepB
  rw [opB_app, toks_app, a1]
  simp only
  rw [b1]
  simp only
  rw [toksS]
  have ht : ∀ os, tokS (row1, [], os) ⟨6, (k : Int), 0, [120]⟩ = .ok (putS row1 [] os ⟨3, (k : Int), 0, [120], []⟩) := fun os => rfl
  rw [ht]
  simp only
  rw [Nat.zero_add] at b2
  rw [List.length_nil, Nat.zero_add] at a3
  cases hm : k - q with
  | zero =>
    rw [hm] at b2
    obtain ⟨row', tops', k1, k2, k3⟩ := put_q q row1 [] os2 ⟨3, (k : Int), 0, [120], []⟩ b2
    rw [k1]
    exact ⟨row', tops', rfl, by omega, k3⟩
  | succ m =>
    rw [hm] at b2
    obtain ⟨os3, k1, k2⟩ := put_p m q row1 [] os2 ⟨3, (k : Int), 0, [120], []⟩ b2
    rw [k1]
    obtain ⟨row', tops', g1, g2, g3⟩ := toks_cl m q (k + 1) (row1 ++ [⟨3, (k : Int), 0, [120], []⟩]) [] os3 k2
    rw [g1]
    exact ⟨row', tops', rfl, by rw [g2]; simp; omega, g3⟩
theorem deep_zero : readF (opX (deepB 0 0)) = .ok ([], []) := rfl
/-- what is open to the end -/
theorem deep_err (k q : Nat) (hq : q ≤ k) (h0 : 0 < k) (hk : k ≤ 50) : readF (opX (deepB k q)) = .error (((k - 1 : Nat) : Int), if q = k then 63 else 60) := by
  have hl := deepB_len hq
  obtain ⟨bs, b, hb, hbl⟩ : ∃ bs b, deepB k q = bs ++ [b] ∧ b = decide (q = k) := by
    unfold deepB
    by_cases h : q = k
    · subst h
      obtain ⟨j, rfl⟩ : ∃ j, q = j + 1 := ⟨q - 1, by omega⟩
      exact ⟨List.replicate j true, true, by rw [Nat.sub_self, List.replicate_zero, List.append_nil, List.replicate_succ'], by simp⟩
    · obtain ⟨j, hj⟩ : ∃ j, k - q = j + 1 := ⟨k - q - 1, by omega⟩
      exact ⟨List.replicate q true ++ List.replicate j false, false, by rw [hj, List.replicate_succ', List.append_assoc], by simp [h]⟩
  have hbs : bs.length + 1 = k := by rw [← hl, hb]; simp
  have := lex_op (deepB k q) 0 []
  rw [List.append_nil] at this
  unfold readF
  rw [lexF_eq (by simp [opX, hl]; omega), this, lexL_nil]
  simp only [comb, List.append_nil]
  unfold readT
  rw [hb, opB_app, toks_app]
  obtain ⟨row1, os1, a1, a2⟩ := toks_open bs 0 [] [] [] (by simp; omega)
  rw [a1]
  simp only [List.length_nil, Nat.zero_add] at a2 ⊢
  obtain ⟨row2, o, e, ho, _, _⟩ := tok_op row1 [] os1 bs.length b (by omega)
  rw [opB, toksS, e]
  show endS _ (row2, [], o :: os1) = _
  unfold endS
  simp only
  rw [ho, List.getLast?_append]
  simp only [opB, List.getLast?_singleton, Option.some_or, Option.map_some]
  rw [show k - 1 = bs.length from by omega, hbl]
  by_cases h : q = k
  · rw [if_pos h]; simp [h]
  · rw [if_neg h]; simp [h]
theorem deep_x : readF [120, 41] = .error (1, 61) := rfl
end Go.Proofs.YtomhkemdafiphaaGreatDoor.ReadP

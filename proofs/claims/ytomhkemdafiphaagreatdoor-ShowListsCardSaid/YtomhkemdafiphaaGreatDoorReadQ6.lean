import Derived.Test.YtomhkemdafiphaaGreatDoorReadQ5
namespace Go.Proofs.YtomhkemdafiphaaGreatDoor.ReadP
open Go.Proofs.YtomhkemdafiphaaGreatDoor.LexP
/-- two texts whose tokens put data that are alike -/
def Same2 (d : Nat) (A B : List UInt8) : Prop := ∀ i j, ∃ T f T' f', (∀ e r, (e = 32 ∨ e = 41) → lexL i (A ++ e :: r) = comb T (lexL (i + A.length) (e :: r))) ∧ (∀ e r, (e = 32 ∨ e = 41) → lexL j (B ++ e :: r) = comb T' (lexL (j + B.length) (e :: r))) ∧ Puts d T f ∧ Puts d T' f' ∧ Like f f'
theorem same_quote {d : Nat} {A B : List UInt8} (h : Same2 d A B) : Same2 (d + 1) (39 :: A) (40 :: 113 :: ([117, 111, 116, 101] ++ 32 :: (B ++ [41]))) := by
  intro i j
  obtain ⟨T, f, T', f', h1, h2, p1, p2, hl⟩ := h (i + 1) (j + 7)
  refine ⟨_, _, _, _, fun e r he => ?_, fun e r he => ?_, puts_quote p1 (i : Int), puts_list p2 (j : Int) ((j + 1 : Nat) : Int) ((j + 7 + B.length : Nat) : Int), like_quote hl _ _ _⟩
  · rw [List.cons_append, lex_quote, h1 e r he, comb_comb, List.length_cons, show i + (A.length + 1) = i + 1 + A.length from by omega]
    rfl
  · have e1 : (40 :: 113 :: ([117, 111, 116, 101] ++ 32 :: (B ++ [41]))) ++ e :: r = 40 :: 113 :: ([117, 111, 116, 101] ++ 32 :: (B ++ 41 :: e :: r)) := by simp
    rw [e1, lex_qhead, h2 41 (e :: r) (.inr rfl), lex_close, comb_comb, comb_comb]
    simp [Nat.add_comm, Nat.add_left_comm]
theorem same_seven : Same2 1 [55] [55] := fun i j => ⟨_, _, _, _, fun e r he => lex_seven i e r he, fun e r he => lex_seven j e r he, puts_int i 7 1, puts_int j 7 1, fun _ => ⟨rfl, rfl⟩⟩
theorem same_x : Same2 1 [120] [120] := fun i j => ⟨_, _, _, _, fun e r he => lex_letter i 120 e r (.inl rfl) he, fun e r he => lex_letter j 120 e r (.inl rfl) he, puts_name i [120] 1, puts_name j [120] 1, fun _ => ⟨rfl, rfl⟩⟩
theorem lex_unit (i : Nat) (r : List UInt8) : lexL i ([40, 41] ++ r) = comb [⟨1, (i : Int), 0, []⟩, ⟨2, ((i + 1 : Nat) : Int), 0, []⟩] (lexL (i + 2) r) := by
  show lexL i (40 :: 41 :: r) = _
  rw [lex_open, lex_close, comb_comb]
  rfl
theorem same_unit : Same2 1 [40, 41] [40, 41] := fun i j => ⟨_, _, _, _, fun e r _ => lex_unit i (e :: r), fun e r _ => lex_unit j (e :: r), puts_unit i _, puts_unit j _, fun _ => ⟨rfl, rfl⟩⟩
theorem lex_two (i : Nat) (r : List UInt8) : lexL i ([40, 97, 32, 98, 41] ++ r) = comb [⟨1, (i : Int), 0, []⟩, ⟨6, ((i + 1 : Nat) : Int), 0, [97]⟩, ⟨6, ((i + 3 : Nat) : Int), 0, [98]⟩, ⟨2, ((i + 4 : Nat) : Int), 0, []⟩] (lexL (i + 5) r) := by
  show lexL i (40 :: 97 :: 32 :: 98 :: 41 :: r) = _
  rw [lex_open, lex_letter (i + 1) 97 32 _ (.inr (.inl rfl)) (.inl rfl), lex_blank, lex_letter (i + 1 + 1 + 1) 98 41 _ (.inr (.inr rfl)) (.inr rfl), lex_close, comb_comb, comb_comb, comb_comb]
  rfl
theorem same_two : Same2 1 [40, 97, 32, 98, 41] [40, 97, 32, 98, 41] := fun i j => ⟨_, _, _, _, fun e r _ => lex_two i (e :: r), fun e r _ => lex_two j (e :: r), puts_two i _ _ _ _ _, puts_two j _ _ _ _ _, fun _ => ⟨rfl, rfl⟩⟩
/-- texts one behind the other, a blank behind each -/
def sT (ps : List (List UInt8 × List UInt8)) : List UInt8 := ps.flatMap fun p => p.1 ++ [32]
def tT (ps : List (List UInt8 × List UInt8)) : List UInt8 := ps.flatMap fun p => p.2 ++ [32]
theorem wholes : ∀ (ps : List (List UInt8 × List UInt8)), (∀ p ∈ ps, ∃ d, d ≤ 50 ∧ Same2 d p.1 p.2) → ∀ (i j : Nat) (row1 row2 : List Nd) (tops : List Int), row1.map noP = row2.map noP →
    ∃ Ts Ts' R1 R2 tops', lexL i (sT ps) = .ok Ts ∧ lexL j (tT ps) = .ok Ts' ∧ toksS (row1, tops, []) Ts = .ok (R1, tops', []) ∧ toksS (row2, tops, []) Ts' = .ok (R2, tops', []) ∧ R1.map noP = R2.map noP
  | [], _, i, j, row1, row2, tops, h => ⟨[], [], row1, row2, tops, rfl, rfl, rfl, rfl, h⟩
  | (A, B) :: ps, hp, i, j, row1, row2, tops, h => by
    obtain ⟨d, hd, hs⟩ := hp (A, B) (List.mem_cons_self ..)
    obtain ⟨T, f, T', f', h1, h2, p1, p2, hl⟩ := hs i j
    have hlen : row1.length = row2.length := by have := congrArg List.length h; simpa using this
    obtain ⟨a, b⟩ := hl row1.length
    have c := hl.len row1.length
    have t1 := puts_top p1 hd row1 tops
    have t2 := puts_top p2 hd row2 tops
    rw [← hlen] at t2
    rw [← c] at t2
    obtain ⟨Ts, Ts', R1, R2, tops', g1, g2, g3, g4, g5⟩ := wholes ps (fun p h => hp p (List.mem_cons_of_mem _ h)) (i + A.length + 1) (j + B.length + 1) (row1 ++ (f row1.length).1 ++ [(f row1.length).2]) (row2 ++ (f' row1.length).1 ++ [(f' row1.length).2]) (tops ++ [((row1.length + (f row1.length).1.length : Nat) : Int)]) (by simp only [List.map_append, List.map_cons, List.map_nil, h, a, b])
    refine ⟨T ++ Ts, T' ++ Ts', R1, R2, tops', ?_, ?_, ?_, ?_, g5⟩
    · have : sT ((A, B) :: ps) = A ++ 32 :: sT ps := by simp [sT]
      rw [this, h1 32 _ (.inl rfl), lex_blank, g1]
      rfl
    · have : tT ((A, B) :: ps) = B ++ 32 :: tT ps := by simp [tT]
      rw [this, h2 32 _ (.inl rfl), lex_blank, g2]
      rfl
    · rw [toks_app, t1]
      exact g3
    · rw [toks_app, t2]
      exact g4
theorem read_of {l : List UInt8} {Ts : List Tok} {R : List Nd} {tops : List Int} (h : l.length ≤ 4000) (h1 : lexL 0 l = .ok Ts) (h2 : toksS ([], [], []) Ts = .ok (R, tops, [])) : readF l = .ok (R, tops) := by
  unfold readF
  rw [lexF_eq h, h1]
  simp only
  unfold readT
  rw [h2]
  rfl
theorem quotes_law (ps : List (List UInt8 × List UInt8)) (hp : ∀ p ∈ ps, ∃ d, d ≤ 50 ∧ Same2 d p.1 p.2) (h1 : (sT ps).length ≤ 4000) (h2 : (tT ps).length ≤ 4000) :
    ∃ R1 R2 tops, readF (sT ps) = .ok (R1, tops) ∧ readF (tT ps) = .ok (R2, tops) ∧ R1.map noP = R2.map noP := by
  obtain ⟨Ts, Ts', R1, R2, tops', g1, g2, g3, g4, g5⟩ := wholes ps hp 0 0 [] [] [] rfl
  exact ⟨R1, R2, tops', read_of h1 g1 g3, read_of h2 g2 g4, g5⟩
/-- so many quotes ahead of a base text, in both ways to write them -/
def qA (a : List UInt8) : Nat → List UInt8
  | 0 => a
  | n + 1 => 39 :: qA a n
def qB (a : List UInt8) : Nat → List UInt8
  | 0 => a
  | n + 1 => 40 :: 113 :: ([117, 111, 116, 101] ++ 32 :: (qB a n ++ [41]))
theorem same_n {a : List UInt8} (h : Same2 1 a a) : ∀ n, Same2 (1 + n) (qA a n) (qB a n)
  | 0 => h
  | n + 1 => same_quote (same_n h n)
end Go.Proofs.YtomhkemdafiphaaGreatDoor.ReadP

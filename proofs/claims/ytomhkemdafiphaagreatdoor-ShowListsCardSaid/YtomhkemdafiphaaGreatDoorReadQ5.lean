import Derived.Test.YtomhkemdafiphaaGreatDoorReadQ4
namespace Go.Proofs.YtomhkemdafiphaaGreatDoor.ReadP
open Go.Proofs.YtomhkemdafiphaaGreatDoor.LexP
theorem lex_blank (i : Nat) (r : List UInt8) : lexL i (32 :: r) = lexL (i + 1) r := by
  have h : pass false (32 :: r) = pass false r := by rw [pass_f, if_pos (show isBlank 32 = true from rfl)]
  rw [lexL_pass i (32 :: r), lexL_pass (i + 1) r, h]
  have := pass_le false r
  rw [List.length_cons, show i + (r.length + 1 - (pass false r).length) = i + 1 + (r.length - (pass false r).length) from by omega]
theorem lex_word (i : Nat) {c : UInt8} {w r : List UInt8} {t : Int × Int × List UInt8} (h1 : isBlank c = false) (h2 : (c == 59) = false) (hf : firstP (c :: (w ++ r)) = .ok (t, w.length + 1)) : lexL i (c :: (w ++ r)) = comb [⟨t.1, (i : Int), t.2.1, t.2.2⟩] (lexL (i + (w.length + 1)) r) := by
  rw [lexL_tok i _ _ (pass_fix _ _ h1 h2), hf]
  show (match lexL (i + (w.length + 1)) ((c :: (w ++ r)).drop (w.length + 1)) with
      | .error e => Except.error e
      | .ok ts => Except.ok ((⟨t.1, (i : Int), t.2.1, t.2.2⟩ : Tok) :: ts)) = _
  rw [List.drop_succ_cons, List.drop_left]
  cases lexL (i + (w.length + 1)) r <;> rfl
theorem comb_comb (a b : List Tok) (x : Except (Nat × Int) (List Tok)) : comb a (comb b x) = comb (a ++ b) x := by
  cases x with
  | error e => rfl
  | ok ts => simp [comb]
theorem lex_quote (i : Nat) (r : List UInt8) : lexL i (39 :: r) = comb [⟨3, (i : Int), 0, []⟩] (lexL (i + 1) r) :=
  lex_word (c := 39) (w := []) (r := r) (t := (3, 0, [])) i rfl rfl (by rw [firstP_eq]; rfl)
theorem lex_close (i : Nat) (r : List UInt8) : lexL i (41 :: r) = comb [⟨2, (i : Int), 0, []⟩] (lexL (i + 1) r) :=
  lex_word (c := 41) (w := []) (r := r) (t := (2, 0, [])) i rfl rfl (by rw [firstP_eq]; rfl)
theorem lex_open (i : Nat) (r : List UInt8) : lexL i (40 :: r) = comb [⟨1, (i : Int), 0, []⟩] (lexL (i + 1) r) :=
  lex_word (c := 40) (w := []) (r := r) (t := (1, 0, [])) i rfl rfl (by rw [firstP_eq]; rfl)
theorem lex_qname (i : Nat) (r : List UInt8) : lexL i (113 :: ([117, 111, 116, 101] ++ 32 :: r)) = comb [⟨6, (i : Int), 0, quoteL⟩] (lexL (i + 5) (32 :: r)) :=
  lex_word (c := 113) (w := [117, 111, 116, 101]) (r := 32 :: r) (t := (6, 0, quoteL)) i rfl rfl (by
    rw [firstP_eq]
    have : word (113 :: ([117, 111, 116, 101] ++ 32 :: r)) = quoteL := rfl
    rw [this]; rfl)
/-- `(quote ` ahead -/
theorem lex_qhead (i : Nat) (r : List UInt8) : lexL i (40 :: 113 :: ([117, 111, 116, 101] ++ 32 :: r)) = comb [⟨1, (i : Int), 0, []⟩, ⟨6, ((i + 1 : Nat) : Int), 0, quoteL⟩] (lexL (i + 7) r) := by
  rw [lex_open, lex_qname, lex_blank, comb_comb]
  rfl
theorem lex_seven (i : Nat) (e : UInt8) (r : List UInt8) (he : e = 32 ∨ e = 41) : lexL i (55 :: e :: r) = comb [⟨4, (i : Int), 7, []⟩] (lexL (i + 1) (e :: r)) :=
  lex_word (c := 55) (w := []) (r := e :: r) (t := (4, 7, [])) i rfl rfl (by
    rw [firstP_eq]
    have : word (55 :: ([] ++ e :: r)) = [55] := by rcases he with rfl | rfl <;> rfl
    rw [this]; rfl)
theorem lex_letter (i : Nat) (c e : UInt8) (r : List UInt8) (hc : c = 120 ∨ c = 97 ∨ c = 98) (he : e = 32 ∨ e = 41) : lexL i (c :: e :: r) = comb [⟨6, (i : Int), 0, [c]⟩] (lexL (i + 1) (e :: r)) :=
  lex_word (c := c) (w := []) (r := e :: r) (t := (6, 0, [c])) i (by rcases hc with rfl | rfl | rfl <;> rfl) (by rcases hc with rfl | rfl | rfl <;> rfl) (by
    rw [firstP_eq]
    have : word (c :: ([] ++ e :: r)) = [c] := by rcases he with rfl | rfl <;> rcases hc with rfl | rfl | rfl <;> rfl
    rw [this]
    rcases hc with rfl | rfl | rfl <;> rfl)
end Go.Proofs.YtomhkemdafiphaaGreatDoor.ReadP

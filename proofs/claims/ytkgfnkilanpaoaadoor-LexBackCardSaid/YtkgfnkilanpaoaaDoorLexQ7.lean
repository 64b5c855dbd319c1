/- The plain law of LexPlays; no conditions. -/
import Derived.Test.YtkgfnkilanpaoaaDoorLexQ6
namespace Go.Proofs.YtkgfnkilanpaoaaDoor.Pure
open Go Go.RowKit Go.Proofs.YtkgfnkilanpaoaaDoor.PLexs Go.Proofs.YtkgfnkilanpaoaaDoor.LexP Go.Proofs.YtkgfnkilanpaoaaDoorW.PrintWords Go.Proofs.YtkgfnkilanpaoaaDoorW.PrintLast
theorem lexN_len : ∀ (k i : Nat) (l : List UInt8) (ts : List Tok), lexN k i l = .ok ts → ts.length ≤ k
  | 0, _, _, ts, h => by injection h with h; subst h; exact Nat.le_refl _
  | k + 1, i, l, ts, h => by
    rw [lexN_succ] at h
    unfold lexStep at h
    split at h
    · injection h with h; subst h; exact Nat.zero_le _
    · split at h
      · cases h
      · split at h
        · cases h
        · rename_i hh
          injection h with h
          subst h
          have := lexN_len k _ _ _ hh
          simp; omega
theorem lexF_len (l : List UInt8) (ts : List Tok) (h : lexF l = .ok ts) : ts.length ≤ l.length + 1 := by
  unfold lexF at h
  split at h
  · cases h
  · exact lexN_len _ _ _ _ h
theorem outB_len (l : List UInt8) : (outB [] (lexF l)).1.length ≤ l.length + 1 := by
  cases h : lexF l with
  | error x => exact Nat.zero_le _
  | ok ts =>
    have := lexF_len l ts h
    simpa [outB] using this
theorem LexPlays (s : ByteArray) : ∃ k, eddywheellaw05_LexPlays.f k s = some true := by
  refine ⟨6 * s.size + 30, ?_⟩
  unfold eddywheellaw05_LexPlays.f
  rw [shown_ok _ (by omega), Option.bind_some]
  by_cases h5 : 5000 < s.size
  · rw [if_pos (by omega)]
  rw [if_neg (by omega), lex_out, Option.bind_some, b_lex s _ (by omega), Option.bind_some, if_pos rfl]
  have hl := outB_len s.data.toList
  rw [← Lib.size_eq] at hl
  rw [same_ok _ _ (by omega) (by omega), Option.bind_some, if_pos rfl, if_pos rfl]
  simp
end Go.Proofs.YtkgfnkilanpaoaaDoor.Pure

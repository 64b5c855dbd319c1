/- How much there is after so many tokens, in plain lists; each states its conditions. -/
import Derived.Test.YthfbkhjcnfjmmaaDoorReadP
import Derived.Test.YthfbkhjcnfjmmaaDoorLexP3
namespace Go.Proofs.YthfbkhjcnfjmmaaDoor.ReadP
open Go.Proofs.YthfbkhjcnfjmmaaDoor.LexP
theorem put_small (m : Nat) : ∀ (row : List Nd) (tops : List Int) (os : List Pt) (x : Nd), (∀ o ∈ os, o.l.length ≤ m) →
    (putS row tops os x).1.length + (putS row tops os x).2.2.length = row.length + os.length + 1 ∧ (putS row tops os x).2.1.length ≤ tops.length + 1 ∧ (putS row tops os x).2.2.length ≤ os.length ∧ ∀ o ∈ (putS row tops os x).2.2, o.l.length ≤ m + 1
  | row, tops, [], x, _ => by simp [putS]
  | row, tops, o :: os, x, h => by
    unfold putS
    split
    · obtain ⟨h1, h2, h3, h4⟩ := put_small m (row ++ [x]) tops os ⟨4, o.at_, 0, [], o.l ++ [(row.length : Int)]⟩ (fun o' ho => h o' (List.mem_cons_of_mem _ ho))
      rw [List.length_append, List.length_singleton] at h1
      refine ⟨by rw [h1, List.length_cons]; omega, h2, by rw [List.length_cons]; omega, h4⟩
    · refine ⟨by simp; omega, by simp, by simp, fun o' ho => ?_⟩
      rcases List.mem_cons.1 ho with rfl | ho
      · have := h o (List.mem_cons_self ..)
        simp; omega
      · have := h o' (List.mem_cons_of_mem _ ho)
        omega
/-- how much there is after so many tokens -/
def Inv (k : Nat) (st : List Nd × List Int × List Pt) : Prop := st.1.length + st.2.2.length ≤ 2 * k ∧ st.2.1.length ≤ k ∧ st.2.2.length ≤ 50 ∧ ∀ o ∈ st.2.2, o.l.length ≤ k
theorem tok_small {k : Nat} {st st' : List Nd × List Int × List Pt} {t : Tok} (h : Inv k st) (ht : tokS st t = .ok st') : Inv (k + 1) st' := by
  obtain ⟨row, tops, os⟩ := st
  obtain ⟨h1, h2, h3, h4⟩ := h
  simp only at h1 h2 h3 h4
  have pd : ∀ x, Inv (k + 1) (putS row tops os x) := fun x => by
    obtain ⟨g1, g2, g3, g4⟩ := put_small k row tops os x h4
    exact ⟨by omega, by omega, by omega, g4⟩
  unfold tokS at ht
  simp only at ht
  split at ht
  · injection ht with ht; rw [← ht]; exact pd _
  split at ht
  · injection ht with ht; rw [← ht]; exact pd _
  split at ht
  · injection ht with ht; rw [← ht]; exact pd _
  split at ht
  · cases os with
    | nil => cases ht
    | cons o os =>
      simp only at ht
      split at ht
      · cases ht
      · injection ht with ht
        rw [← ht]
        simp only [List.length_cons] at h1 h3
        obtain ⟨g1, g2, g3, g4⟩ := put_small k row tops os ⟨4, o.at_, 0, [], o.l⟩ (fun o' ho => h4 o' (List.mem_cons_of_mem _ ho))
        exact ⟨by omega, by omega, by omega, g4⟩
  split at ht
  · cases ht
  rename_i hd
  split at ht
  · injection ht with ht
    rw [← ht]
    obtain ⟨g1, g2, g3, g4⟩ := put_small k row tops (⟨t.pos, true, []⟩ :: os) ⟨3, t.pos, 0, quoteL, []⟩ (fun o' ho => by
      rcases List.mem_cons.1 ho with rfl | ho
      · exact Nat.zero_le _
      · exact h4 o' ho)
    rw [List.length_cons] at g1 g3
    exact ⟨by omega, by omega, by omega, g4⟩
  · injection ht with ht
    rw [← ht]
    refine ⟨by simp; omega, by simp only; omega, by simp; omega, fun o' ho => ?_⟩
    rcases List.mem_cons.1 ho with rfl | ho
    · exact Nat.zero_le _
    · exact Nat.le_succ_of_le (h4 o' ho)
theorem kinds_of (full : List UInt8) : ∀ (ts : List Tok) (last : Int), Stand full last ts → ∀ t ∈ ts, 1 ≤ t.kind ∧ t.kind ≤ 6
  | [], _, _, t, ht => by cases ht
  | t0 :: ts, last, h, t, ht => by
    obtain ⟨_, _, _, h3, _, h5⟩ := h
    rcases List.mem_cons.1 ht with rfl | ht
    · exact h3.2
    · exact kinds_of full ts _ h5 t ht
theorem lexF_kinds {l : List UInt8} {ts : List Tok} (h : lexF l = .ok ts) : (∀ t ∈ ts, 1 ≤ t.kind ∧ t.kind ≤ 6) ∧ ts.length ≤ 4001 := by
  unfold lexF at h
  split at h
  · cases h
  · rename_i hl
    have hs := stand_ok l l.length 0 ts (-1) (by omega) (by omega) (by omega) (by rw [List.drop_zero]; exact h)
    refine ⟨kinds_of l ts _ hs, ?_⟩
    have := lexN_len _ _ _ _ h
    omega
end Go.Proofs.YthfbkhjcnfjmmaaDoor.ReadP

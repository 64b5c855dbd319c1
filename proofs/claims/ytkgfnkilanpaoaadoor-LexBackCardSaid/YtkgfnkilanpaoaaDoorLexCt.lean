/- Rows of tokens as the print's; each states its conditions. -/
import Derived.Test.YtkgfnkilanpaoaaDoorLexQ7
import Derived.Test.YtkgfnkilanpaoaaDoorLexVars
import Derived.Test.YtkgfnkilanpaoaaDoorRowsApp
namespace Go.Proofs.YtkgfnkilanpaoaaDoor.PLexs
open Go Go.RowKit Go.Proofs.YtkgfnkilanpaoaaDoor.LexP Go.Proofs.YtkgfnkilanpaoaaDoor.LexC Go.Proofs.YtkgfnkilanpaoaaDoor.Own Go.Proofs.YtkgfnkilanpaoaaDoorW.PrintWords Go.Proofs.YtkgfnkilanpaoaaDoorW.PrintLast Go.Proofs.YtkgfnkilanpaoaaDoorW.PrintMore
theorem C_tok {w : World} {base : Nat} {B : Option Addr} {c : Nat} {ts : List Tok} (h : w.ownsRow base 30 4 (.slice B ts.length c) ts.length (ts.flatMap tokC)) : ts.length ≤ c ∧ Kd.C k30 w B ts.length (ts.map toS) := by
  have hr : Reps (k30.K w) 4 (ts.map toS) (ts.flatMap tokC) := by
    refine ⟨?_, fun j p hj => ?_⟩
    · rw [List.length_map]; exact flat_len _ 4 (fun _ => rfl) ts
    · rw [List.getElem?_map] at hj
      cases ht : ts[j]? with
      | none => rw [ht] at hj; simp at hj
      | some t =>
        rw [ht] at hj
        have : toS t = p := by simpa using hj
        subst this
        have := flat_at tokC 4 (fun _ => rfl) ts j t ht
        show k30.K _ _ (((ts.flatMap tokC).drop (j * 4)).take 4)
        rw [this]
        exact k30_mk _ _
  obtain ⟨A, c2, h1, h2, h3⟩ := Lib2.own_C k30 (xs := ts.map toS) h (by simp) hr
  simp only [Value.slice.injEq] at h1
  obtain ⟨rfl, _, rfl⟩ := h1
  exact ⟨h2, by simpa using h3⟩
end Go.Proofs.YtkgfnkilanpaoaaDoor.PLexs

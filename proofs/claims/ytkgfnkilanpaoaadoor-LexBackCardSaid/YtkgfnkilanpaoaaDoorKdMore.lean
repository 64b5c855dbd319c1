/- Rows known whole, read as kinds; each states its conditions. -/
import Derived.Test.YtkgfnkilanpaoaaDoorWWords
namespace Go.Proofs.YtkgfnkilanpaoaaDoor.Lib2
open Go Go.RowKit Go.Proofs.YtkgfnkilanpaoaaDoorW.PrintWords
section
variable {α : Type} {W : World} {g base e : Nat} {xs : List α} {cs : List Value}
theorem blk_at {t : TypeId} {cs : Array Value} (h : W.heap[g]? = some (.cells cs t (0, 0))) (i : Nat) : W.cell? ⟨g, i, none⟩ = cs[i]? := cell_of_row W g i cs t (0, 0) h
/-- a block that is known whole, as a row of the call's own -/
theorem R_blk (d : Kd α) {ok okp : Nat → Prop} (hb : W.heap[g]? = some (.cells cs.toArray e (0, 0))) (hg : base ≤ g) (hr : Reps (d.M W base okp) d.sz xs cs) (hokp : ∀ k, okp k → ok k ∧ k ≠ g) (hok : ok g) (hm : xs.length ≤ 9223372036854775807) :
    d.R e W base ok (.slice (some ⟨g, 0, none⟩) xs.length xs.length) xs := by
  refine ⟨fun k hk => ?_, cs, ⟨hr.1, .inr ⟨g, xs.length, _, rfl, hg, hb, Nat.le_refl _, by simpa [maxLen] using hm, by simpa using hr.1, ?_⟩⟩, ?_⟩
  · simp only [Value.ownBlock, Option.some.injEq] at hk
    subst hk; exact hok
  · rw [List.take_of_length_le (by simp [hr.1])]
  · refine hr.imp_ (fun p c hp => d.M_mono (fun k hk => ⟨(hokp k hk).1, fun he => (hokp k hk).2 ?_⟩) hp)
    simpa [Value.ownBlock] using he
/-- and as one that is read -/
theorem C_blk (d : Kd α) (hb : W.heap[g]? = some (.cells cs.toArray e (0, 0))) (hr : Reps (d.K W) d.sz xs cs) (hm : xs.length ≤ 9223372036854775807) : d.C W (some ⟨g, 0, none⟩) xs.length xs := by
  refine ⟨rfl, hm, fun _ => ⟨_, rfl, fun j p hp => ⟨_, ?_, hr.2 j p hp, fun i u hu => ?_⟩⟩⟩
  · have h1 := (List.getElem?_eq_some_iff.1 hp).1
    have h2 : (j + 1) * d.sz ≤ xs.length * d.sz := Nat.mul_le_mul_right _ h1
    rw [Nat.add_mul, Nat.one_mul] at h2
    simp [hr.1]; omega
  · rw [show (⟨g, 0, none⟩ : Addr).add (j * d.sz + i) = ⟨g, j * d.sz + i, none⟩ by unfold Addr.add; split <;> simp_all, blk_at hb]
    have h1 := (List.getElem?_eq_some_iff.1 hu).1
    rw [List.getElem?_take_of_lt (by simp at h1; omega), List.getElem?_drop] at hu
    simpa using hu
end
end Go.Proofs.YtkgfnkilanpaoaaDoor.Lib2

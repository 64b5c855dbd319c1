/- The examples at the head of the arena laws hold; no conditions. -/
import Derived.Test.YtlaipmakgicnfaaArenaC6
namespace Go.Proofs.Ytlaipmakgicnfaa.Ar
open Go Go.RowKit Go.Proofs.Ytlaipmakgicnfaa.Heap Go.Proofs.Ytlaipmakgicnfaa.Word
theorem shown_calls (w : World) : Calls Try.prog 8 #[] w fun e w' => e = .returned (.bool true) ∧ Chg [] w w' := by
  go_enter Try.func8, Try.ntmps8
  go_wp2_with fail
  refine (new_calls 4 _ (by decide) (by decide)).mono ?_
  rintro e w1 ⟨g, bw, bh, rfl, ha, hc, l1, l2, l3⟩
  go_wp2_with fail
  refine (alloc_calls (ha.sub ((Chg.refl _ _).alloc _)) 1 _ [2, 18] (rd_new _ _ _ rfl ha.lt _ _ _ rfl rfl) (by decide) (by decide) (by decide) (by decide)).mono ?_
  rintro e w2 ⟨rfl, ha2, hc2⟩
  go_wp2_with fail
  refine (alloc_calls ha2 2 _ [] (rd_nil _ _ _ _) (by decide) (by decide) (by decide) (by decide)).mono ?_
  rintro e w3 ⟨rfl, ha3, hc3⟩
  go_wp2_with fail
  refine (alloc_full ha3 3 _ _ _ (by decide) (by decide) (by decide) (by decide)).mono ?_
  rintro e w4 ⟨rfl, rfl⟩
  go_wp2_with fail
  go_ret
  have hb : ∀ b, b ∈ [g, bw, bh] → b ∈ ([] : List Nat) ∨ w.heap.size ≤ b := by
    intro b hb
    simp only [List.mem_cons, List.not_mem_nil, or_false] at hb
    rcases hb with rfl | rfl | rfl <;> exact .inr (by assumption)
  exact ⟨rfl, ((hc.alloc _).trans hc2 hb).trans hc3 hb⟩
end Go.Proofs.Ytlaipmakgicnfaa.Ar

import Derived.Test.YtkiamiphmndmcaaDoorPrimsC
namespace Go.Proofs.YtkiamiphmndmcaaDoor.Lib2
open Go Go.RowKit Go.Proofs.YtkiamiphmndmcaaDoor.Heap Go.Proofs.YtkiamiphmndmcaaDoor.Own Go.Maps
theorem lookI {w : World} {mb n : Nat} {D : DataW Unit} (h : w.ownsMap Tryd.prog 3 (plainElem Tryd.prog 3) mb n D) (hT : PrimTab D 29) (a : Int) (ha : (Lit.int .i64 a).wf = true) :
    (Instr.lookup 47 (.map (some mb)) (.int .i64 a) true).run Tryd.prog w = .ok (.tuple #[.int .i64 ((tabK 29 a).getD 0), .bool (tabK 29 a).isSome]) w := by
  have hT1 := hT a (.lit (.bool false))
  have hT2 := hT a (.lit (.bool true))
  obtain ⟨es, clock, hb, F, _, rfl⟩ := h
  rcases Maps.fit_look true lawI Tryd.underlying47 (zeroI w) hb F (keyOf_int_mk Tryd.underlying3 ha) with ⟨hrun, _, hat⟩ | ⟨e0, y, _, _, hrun, hRv, hat, _⟩
  · rw [hat] at hT1 hT2
    cases htab : tabK 29 a with
    | none => rw [hrun]; rfl
    | some v => rw [htab] at hT1; simp at hT1
  · rw [hat] at hT1 hT2
    cases htab : tabK 29 a with
    | none =>
      rw [htab] at hT1 hT2
      simp only at hT1 hT2
      rw [hT1] at hT2
      simp at hT2
    | some v =>
      rw [htab] at hT1
      simp only at hT1
      obtain ⟨a', hv, hy, _⟩ := plainElem_int_inv Tryd.underlying3 hRv
      rw [hy] at hT1
      simp at hT1
      subst hT1
      rw [hrun, hv]; rfl
end Go.Proofs.YtkiamiphmndmcaaDoor.Lib2

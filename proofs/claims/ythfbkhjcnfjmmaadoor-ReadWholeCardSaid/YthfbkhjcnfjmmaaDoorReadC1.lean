/- Contracts of last; each states its conditions. -/
import Derived.Test.YthfbkhjcnfjmmaaDoorReadM
import Derived.Test.YthfbkhjcnfjmmaaDoorShelf
import Derived.WalkKit
import Derived.WalkMore
import Derived.BigQuiet
import Derived.Deep.QuietTactic
import Derived.IntWalk
namespace Go.Proofs.YthfbkhjcnfjmmaaDoor.ReadM
open Go Go.RowKit Go.Proofs.YthfbkhjcnfjmmaaDoor.Heap Go.Proofs.YthfbkhjcnfjmmaaDoor.Own Go.Proofs.YthfbkhjcnfjmmaaDoor.ReadP
open Go.Proofs.YthfbkhjcnfjmmaaDoorW.PrintWords (Aside0 below_then below_alloc)
theorem last_none (g : Nat) (w : World) {v0 v1 : Value} {A : Option Addr} {c : Nat} (hb : w.heap[g]? = some (.cells #[v0, v1, .slice A 0 c] 46 (0, 0))) :
    Calls Tryd.prog 20 #[.pointer (some ⟨g, 0, none⟩)] w fun e w' => e = .returned (.pointer none) ∧ w = w' := by
  have h2 := blk_cell hb 2
  simp at h2
  clear hb
  go_enter Tryd.func20, Tryd.ntmps20
  go_wp2
  go_ret
  exact ⟨rfl, rfl⟩
set_option maxHeartbeats 1000000 in
theorem last_some (g : Nat) (w : World) {v0 v1 x : Value} {ga m c : Nat} (hb : w.heap[g]? = some (.cells #[v0, v1, .slice (some ⟨ga, 0, none⟩) (m + 1) c] 46 (0, 0))) (hx : w.cell? ⟨ga, m, none⟩ = some x) (hm : m ≤ 1000) :
    Calls Tryd.prog 20 #[.pointer (some ⟨g, 0, none⟩)] w fun e w' => e = .returned x ∧ ∃ n, w' = w.drewN n := by
  have h2 := blk_cell hb 2
  simp at h2
  have e1 : (((m + 1 : Nat) : Int) == 0) = false := by simp; omega
  have e2 : ((m : Int) + 1 == 0) = false := by simp; omega
  have b0 : (0 : Int) ≤ (m : Int) := by omega
  have b1 : (m : Int) < 1001 := by omega
  have b2 : (m : Int) < (m : Int) + 1 := by omega
  have w1 : IntKind.i64.wrap ((m : Int) + 1 - 1) = (m : Int) := by rw [IntWalk.i64_in _ (by omega)]; omega
  clear hb hm
  go_enter Tryd.func20, Tryd.ntmps20
  go_wp2
  go_quiet (fail)
  go_wp2
  go_ret
  exact ⟨rfl, _, rfl⟩
theorem last_rd0 {w : World} {base g : Nat} {rs : List (Nd × Value)} {tops : List Int} {v1 : Value} (h : IsRd w base g rs tops v1 []) :
    Calls Tryd.prog 20 #[.pointer (some ⟨g, 0, none⟩)] w fun e w' => e = .returned (.pointer none) ∧ w = w' := by
  obtain ⟨v0, A, c, hb, _, _⟩ := h.cells
  exact last_none g w hb
theorem last_rd1 {w : World} {base g : Nat} {rs : List (Nd × Value)} {tops : List Int} {v1 : Value} {o : Pt × Nat × Value} {os : List (Pt × Nat × Value)} (h : IsRd w base g rs tops v1 (o :: os)) (hn : os.length ≤ 1000) :
    Calls Tryd.prog 20 #[.pointer (some ⟨g, 0, none⟩)] w fun e w' => e = .returned (.pointer (some ⟨o.2.1, 0, none⟩)) ∧ ∃ n, w' = w.drewN n := by
  obtain ⟨v0, A, c, hb, _, ho⟩ := h.cells
  rw [List.length_cons] at hb ho
  rcases ho.2 with ⟨h1, _⟩ | ⟨ga, cap, cur, h1, _⟩
  · simp at h1
  · simp only [Value.slice.injEq] at h1
    obtain ⟨rfl, _, _⟩ := h1
    obtain ⟨b, p, h3, _, hc⟩ := (Src.own ho).pl (by omega) (by decide)
    injection h3 with h3
    injection h3 with h3 h4
    subst h3; subst h4
    refine last_some (m := os.length) g w hb ?_ hn
    have := hc os.length (.pointer (some ⟨o.2.1, 0, none⟩)) (by
      rw [List.reverse_cons, List.map_append, List.getElem?_append_right (by simp)]
      simp)
    rwa [Nat.zero_add] at this
end Go.Proofs.YthfbkhjcnfjmmaaDoor.ReadM

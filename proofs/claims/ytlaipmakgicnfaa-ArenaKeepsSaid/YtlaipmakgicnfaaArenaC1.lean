/- What it is that a block is an arena, and contracts of Used and Size; each states its conditions. -/
import Derived.Test.YtlaipmakgicnfaaHeap
import Derived.Test.YtlaipmakgicnfaaArenaPure
namespace Go.Proofs.Ytlaipmakgicnfaa.Ar
open Go.Proofs.Ytlaipmakgicnfaa.Heap
open Go Go.RowKit
/-- in the world w the arena at block g has `size` words, and things l -/
structure IsAr (w : World) (g bw bh size : Nat) (l : List Thing) : Prop where
  pt : w.heap[g]? = some (.cells #[.slice (some ⟨bw, 0, none⟩) size size, .slice (some ⟨bh, 0, none⟩) size size, .int .i64 (tot l : Int)] 62 (0, 0))
  wd : ∃ z : List Int, tot l + z.length = size ∧ w.heap[bw]? = some (.cells (nums .u64 (flatW l ++ z)).toArray 31 (0, 0))
  hd : ∃ z : Nat, tot l + z = size ∧ w.heap[bh]? = some (.cells (bools (flatH l ++ List.replicate z false)).toArray 4 (0, 0))
  ok : okT l
  lo : 1 ≤ size
  hi : size ≤ 65536
theorem IsAr.keep {w w' : World} {g bw bh size : Nat} {l : List Thing} {F : List Nat} (h : IsAr w g bw bh size l) (k : Chg F w w') (hg : g ∉ F) (hb : bw ∉ F) (hh : bh ∉ F) : IsAr w' g bw bh size l :=
  ⟨k.at h.pt hg, h.wd.imp fun _ hz => ⟨hz.1, k.at hz.2 hb⟩, h.hd.imp fun _ hz => ⟨hz.1, k.at hz.2 hh⟩, h.ok, h.lo, h.hi⟩
theorem IsAr.sub {w w' : World} {g bw bh size : Nat} {l : List Thing} (h : IsAr w g bw bh size l) (k : Chg [] w w') : IsAr w' g bw bh size l := h.keep k (by simp) (by simp) (by simp)
theorem IsAr.tot_le {w : World} {g bw bh size : Nat} {l : List Thing} (h : IsAr w g bw bh size l) : tot l ≤ size := by obtain ⟨z, hz, _⟩ := h.wd; omega
theorem used_calls {w : World} {g bw bh size : Nat} {l : List Thing} (h : IsAr w g bw bh size l) :
    Calls Try.prog 14 #[.pointer (some ⟨g, 0, none⟩)] w fun e w' => e = .returned (.int .i64 (tot l : Int)) ∧ w = w' := by
  have hc : w.cell? ⟨g, 2, none⟩ = some (.int .i64 (tot l : Int)) := by rw [blk_cell h.pt]; rfl
  go_enter Try.func14, Try.ntmps14
  go_wp2
  go_ret
  exact ⟨rfl, rfl⟩
theorem used_nil (w : World) :
    Calls Try.prog 14 #[.pointer none] w fun e w' => e = .returned (.int .i64 0) ∧ w = w' := by
  go_enter Try.func14, Try.ntmps14
  go_wp2
  go_ret
  exact ⟨rfl, rfl⟩
theorem size_calls {w : World} {g bw bh size : Nat} {l : List Thing} (h : IsAr w g bw bh size l) :
    Calls Try.prog 24 #[.pointer (some ⟨g, 0, none⟩)] w fun e w' => e = .returned (.int .i64 (size : Int)) ∧ w = w' := by
  have hc : w.cell? ⟨g, 0, none⟩ = some (.slice (some ⟨bw, 0, none⟩) size size) := by rw [blk_cell h.pt]; rfl
  go_enter Try.func24, Try.ntmps24
  go_wp2
  go_ret
  exact ⟨rfl, rfl⟩
theorem size_nil (w : World) :
    Calls Try.prog 24 #[.pointer none] w fun e w' => e = .returned (.int .i64 0) ∧ w = w' := by
  go_enter Try.func24, Try.ntmps24
  go_wp2
  go_ret
  exact ⟨rfl, rfl⟩
end Go.Proofs.Ytlaipmakgicnfaa.Ar

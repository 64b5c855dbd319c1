/- Small lemmas on slices that are handed to Alloc; each states its conditions. -/
import Derived.Test.YtlaipmakgicnfaaArenaC5
import Derived.Test.YtlaipmakgicnfaaOwn
namespace Go.Proofs.Ytlaipmakgicnfaa.Ar
open Go Go.RowKit Go.Proofs.Ytlaipmakgicnfaa.Heap Go.Proofs.Ytlaipmakgicnfaa.Word
theorem rd_nil (w : World) (F : List Nat) (A : Option Addr) (c : Nat) : Rd w F (.slice A 0 c) [] := ⟨A, c, rfl, fun h => absurd rfl h⟩
theorem rd_new {w : World} {F : List Nat} (xs : List Int) (cs : Array Value) (t : TypeId) (hcs : cs = (nums .u64 xs).toArray) (hF : ∀ b, b ∈ F → b < w.heap.size) (c n k : Nat) (hn : n = xs.length) (hk : k = w.heap.size) :
    Rd (w.alloc (.cells cs t)) F (.slice (some ⟨k, 0, none⟩) n c) xs := by
  subst hcs hn hk
  refine ⟨_, c, rfl, fun _ => ⟨_, _, rfl, fun h => Nat.lt_irrefl _ (hF _ h), fun j x hj => ?_⟩⟩
  rw [blk_cell (blk_new rfl), Nat.zero_add, nums_get, hj]; rfl
theorem IsAr.lt {w : World} {g bw bh size : Nat} {l : List Thing} (h : IsAr w g bw bh size l) : ∀ b, b ∈ [g, bw, bh] → b < w.heap.size := by
  intro b hb
  simp only [List.mem_cons, List.not_mem_nil, or_false] at hb
  rcases hb with rfl | rfl | rfl
  · exact blk_lt h.pt
  · obtain ⟨z, _, hz⟩ := h.wd; exact blk_lt hz
  · obtain ⟨z, _, hz⟩ := h.hd; exact blk_lt hz
theorem rd_own {w : World} {F : List Nat} {base : Nat} {e : TypeId} {n : Nat} {v : Value} {xs : List Int} (h : w.ownsRow base e 1 v n (nums .u64 xs)) (hF : ∀ b, b ∈ F → b < base) : Rd w F v xs := by
  have hn : xs.length = n := by have := h.1; simpa [nums] using this
  subst hn
  rcases h.2 with ⟨rfl, h0⟩ | ⟨g, cap, cur, rfl, hb, hg, _, _, _, ht⟩
  · exact ⟨none, 0, by rw [h0], fun hx => absurd (List.eq_nil_of_length_eq_zero h0) hx⟩
  · refine ⟨_, cap, rfl, fun _ => ⟨g, 0, rfl, fun hm => ?_, fun j x hj => ?_⟩⟩
    · have := hF g hm; omega
    · have hjl : j < xs.length := (List.getElem?_eq_some_iff.1 hj).1
      have h2 : (cur.toList.take (xs.length * 1))[j]? = some (.int .u64 x) := by rw [ht]; simp [nums, hj]
      rw [blk_cell hg, Nat.zero_add]
      rw [List.getElem?_take, if_pos (by omega)] at h2
      simpa using h2
theorem IsAr.drewN {w : World} {g bw bh size : Nat} {l : List Thing} (h : IsAr w g bw bh size l) (n : Nat) : IsAr (w.drewN n) g bw bh size l := ⟨h.pt, h.wd, h.hd, h.ok, h.lo, h.hi⟩
theorem IsAr.drew {w : World} {g bw bh size : Nat} {l : List Thing} (h : IsAr w g bw bh size l) : IsAr w.drew g bw bh size l := ⟨h.pt, h.wd, h.hd, h.ok, h.lo, h.hi⟩
end Go.Proofs.Ytlaipmakgicnfaa.Ar

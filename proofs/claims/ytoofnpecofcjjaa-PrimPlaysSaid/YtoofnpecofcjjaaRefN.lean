/- Contracts of New, and of Alloc where nothing is made, of the arena of the reference; each states its conditions. -/
import Derived.Test.YtoofnpecofcjjaaRefF
namespace Go.Proofs.Ytoofnpecofcjjaa.Rf
open Go Go.RowKit Go.Proofs.Ytoofnpecofcjjaa.Heap Go.Proofs.Ytoofnpecofcjjaa.Word Go.Proofs.Ytoofnpecofcjjaa.Own Go.Proofs.Ytoofnpecofcjjaa.Ar
theorem rnew_bad (n : Int) (w : World) (hn : n < 1 ∨ 65536 < n) :
    Calls Try.prog 11 #[.int .i64 n] w fun e w' => e = .returned (.tuple #[.pointer none, .int .i64 1]) ∧ w = w' := by
  rcases hn with hn | hn
  · have t1 : decide (n < 1) = true := by simpa using hn
    clear hn
    go_enter Try.func11, Try.ntmps11
    go_wp2
    go_ret2
    exact ⟨rfl, rfl⟩
  · have t1 : decide (n < 1) = false := by simp; omega
    have t2 : decide (n > 65536) = true := by simpa using hn
    clear hn
    go_enter Try.func11, Try.ntmps11
    go_wp2
    go_ret2
    exact ⟨rfl, rfl⟩
theorem rnew_calls (n : Nat) (w : World) (hn : 1 ≤ n) (hn' : n ≤ 65536) :
    Calls Try.prog 11 #[.int .i64 n] w fun e w' => ∃ g, e = .returned (.tuple #[.pointer (some ⟨g, 0, none⟩), .int .i64 0]) ∧
      (∀ R : Nat → Prop, R g → IsRf w' R g n []) ∧ Chg [] w w' ∧ w.heap.size ≤ g ∧ g < w'.heap.size := by
  have t1 : decide ((n : Int) < 1) = false := by simp; omega
  have t2 : decide ((n : Int) > 65536) = false := by simp; omega
  go_enter Try.func11, Try.ntmps11
  go_wp2
  go_ret2
  have hb : (w.alloc (.cells #[.int .i64 (n : Int), .int .i64 0, .slice none 0 0] 45)).heap[w.heap.size]? = some (.cells #[.int .i64 (n : Int), .int .i64 0, .slice none 0 0] 45 (0, 0)) := blk_new rfl
  refine ⟨w.heap.size, rfl, fun R hR => ⟨⟨none, 0, hb, World.ownsRow_nil _ _ _ _, fun b hb => by have := mem_ob.1 hb; simp [Value.ownBlock] at this⟩, trivial, by simp, by simp, by intro o ho; simp at ho, hn, hn', Nat.zero_le _, hR⟩,
    (Chg.refl [] w).alloc _, Nat.le_refl _, by simp⟩
theorem ralloc_bad {w : World} {p : Value} (k : Int) (A : Option Addr) (m c : Nat) (hk : k < 1 ∨ 9 < k ∨ 255 < m) :
    Calls Try.prog 13 #[p, .int .i64 k, .slice A m c] w fun e w' => e = .returned (.tuple #[.int .u64 0, .int .i64 1]) ∧ w = w' := by
  by_cases h1 : k < 1
  · have t1 : decide (k < 1) = true := by simpa using h1
    clear hk h1
    go_enter Try.func13, Try.ntmps13
    go_wp2
    go_ret2
    exact ⟨rfl, rfl⟩
  · have t1 : decide (k < 1) = false := by simpa using h1
    by_cases h2 : 9 < k
    · have t2 : decide (k > 9) = true := by simpa using h2
      clear hk h1 h2
      go_enter Try.func13, Try.ntmps13
      go_wp2
      go_ret2
      exact ⟨rfl, rfl⟩
    · have t2 : decide (k > 9) = false := by simpa using h2
      have t3 : decide ((m : Int) > 255) = true := by simp; omega
      clear hk h1 h2
      go_enter Try.func13, Try.ntmps13
      go_wp2
      go_ret2
      exact ⟨rfl, rfl⟩
theorem ralloc_full {w : World} {R : Nat → Prop} {g size : Nat} {es : List RE} (h : IsRf w R g size es) (k : Int) (A : Option Addr) (m c : Nat) (hk : 1 ≤ k) (hk' : k ≤ 9) (hm : m ≤ 255) (hf : size ≤ tot (es.map RE.th) + m) :
    Calls Try.prog 13 #[.pointer (some ⟨g, 0, none⟩), .int .i64 k, .slice A m c] w fun e w' => e = .returned (.tuple #[.int .u64 0, .int .i64 20]) ∧ ∃ n, w' = w.drewN n := by
  obtain ⟨A', c', c0, c1, c2, _⟩ := rf_cell h
  have := h.hi
  have := h.le
  generalize tot (es.map RE.th) = u at *
  have t1 : decide (k < 1) = false := by simp; omega
  have t2 : decide (k > 9) = false := by simp; omega
  have t3 : decide ((m : Int) > 255) = false := by simp; omega
  have t4 : decide ((size : Int) - (u : Int) < (m : Int) + 1) = true := by simp; omega
  go_enter Try.func13, Try.ntmps13
  have s1 : IntKind.i64.wrap ((m : Int) + 1) = (m : Int) + 1 := IntWalk.i64_in _ (by omega)
  have s2 : IntKind.i64.wrap ((size : Int) - (u : Int)) = (size : Int) - (u : Int) := IntWalk.i64_in _ (by omega)
  go_wp2
  go_quiet (fail)
  go_wp2
  go_ret2
  exact ⟨rfl, _, rfl⟩
end Go.Proofs.Ytoofnpecofcjjaa.Rf

/- Contracts of the reference of layer 1: Of and To, walked; each states its conditions. -/
import Derived.Test.YtoofnpecofcjjaaWordC
import Derived.Test.YtoofnpecofcjjaaHeap
namespace Go.Proofs.Ytoofnpecofcjjaa.Word
open Go Go.RowKit Go.Proofs.Ytoofnpecofcjjaa.Heap
theorem rof_yes (k n : Int) (w : World) (hk : k = 1 ∨ k = 3) (h0 : 0 ≤ n) (h1 : n < 1099511627776) :
    Calls Try.prog 20 #[.int .i64 k, .int .i64 n] w fun e w' => e = .returned (.tuple #[.int .u64 (n * 8 + k), .int .i64 0]) ∧ w = w' := by
  have t0 : decide (n < 0) = false := by simp; omega
  have t1 : decide (n ≥ 1099511627776) = false := by simp; omega
  have e1 : IntKind.u64.wrap n = n := by rw [wrap_u64]; omega
  have e2 : IntKind.u64.wrap (n * 8) = n * 8 := by rw [wrap_u64]; omega
  rcases hk with rfl | rfl
  · have e3 : IntKind.u64.wrap (n * 8 + 1) = n * 8 + 1 := by rw [wrap_u64]; omega
    go_enter Try.func20, Try.ntmps20
    go_wp2
    go_ret2
    exact ⟨rfl, rfl⟩
  · have e3 : IntKind.u64.wrap (n * 8 + 3) = n * 8 + 3 := by rw [wrap_u64]; omega
    go_enter Try.func20, Try.ntmps20
    go_wp2
    go_ret2
    exact ⟨rfl, rfl⟩
theorem rof_no (k n : Int) (w : World) (hk : k = 1 ∨ k = 3) (h1 : 1099511627776 ≤ n) (h2 : n < 9223372036854775808) :
    Calls Try.prog 20 #[.int .i64 k, .int .i64 n] w fun e w' => e = .returned (.tuple #[.int .u64 0, .int .i64 1]) ∧ w = w' := by
  have t0 : decide (n < 0) = false := by simp; omega
  have t1 : decide (n ≥ 1099511627776) = true := by simp; omega
  rcases hk with rfl | rfl <;>
  · go_enter Try.func20, Try.ntmps20
    go_wp2
    go_ret2
    exact ⟨rfl, rfl⟩
theorem rto_one (k x : Int) (w : World) (hk : k = 1 ∨ k = 3) (h0 : 0 ≤ x) (h8 : x < 18446744073709551616) :
    Calls Try.prog 28 #[.int .i64 k, .int .u64 x] w fun e w' => e = .returned (.tuple #[.int .i64 (toP k x).1, .bool (toP k x).2]) ∧ w = w' := by
  have hw : wrap64 (x / 8) = x / 8 := wrap64_id (by omega) (by omega)
  by_cases h1 : x / 8 < 1099511627776
  · have O := fun w => rof_yes k (x / 8) w hk (by omega) h1
    by_cases hm : x % 8 = k
    · have ht : toP k x = (x / 8, true) := by unfold toP; rw [if_pos ⟨by omega, hm, h1⟩]
      have t1 : (x / 8 * 8 + k != x) = false := by simp; omega
      rw [ht]; clear ht hm hk
      go_enter Try.func28, Try.ntmps28
      go_wp2_with fail
      refine (O _).mono ?_
      rintro e w1 ⟨rfl, rfl⟩
      go_wp2_with fail
      go_ret2
      exact ⟨rfl, rfl⟩
    · have ht : toP k x = (0, false) := by unfold toP; rw [if_neg (fun h => hm h.2.1)]
      have t1 : (x / 8 * 8 + k != x) = true := by simp; omega
      rw [ht]; clear ht hm hk
      go_enter Try.func28, Try.ntmps28
      go_wp2_with fail
      refine (O _).mono ?_
      rintro e w1 ⟨rfl, rfl⟩
      go_wp2_with fail
      go_ret2
      exact ⟨rfl, rfl⟩
  · have ht : toP k x = (0, false) := by unfold toP; rw [if_neg (fun h => h1 h.2.2)]
    have O := fun w => rof_no k (x / 8) w hk (by omega) (by omega)
    rw [ht]; clear ht hk
    go_enter Try.func28, Try.ntmps28
    go_wp2_with fail
    refine (O _).mono ?_
    rintro e w1 ⟨rfl, rfl⟩
    go_wp2_with fail
    go_ret2
    exact ⟨rfl, rfl⟩
end Go.Proofs.Ytoofnpecofcjjaa.Word

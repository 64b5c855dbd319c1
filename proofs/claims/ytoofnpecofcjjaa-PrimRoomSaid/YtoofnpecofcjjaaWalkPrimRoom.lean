/- The walk of PrimRoom: for any two words and how many are put together ahead the law answers true; no conditions. -/
import Derived.Test.YtoofnpecofcjjaaPrim3
namespace Go.Proofs.Ytoofnpecofcjjaa.Prim
open Go Go.RowKit Go.Proofs.Ytoofnpecofcjjaa.Heap Go.Proofs.Ytoofnpecofcjjaa.Word Go.Proofs.Ytoofnpecofcjjaa.Own Go.Proofs.Ytoofnpecofcjjaa.Ar Go.Proofs.Ytoofnpecofcjjaa.Pure
def pairs (k : Nat) (x y : Int) : List Thing := List.replicate k (1, [x, y])
theorem pairs_tot (k : Nat) (x y : Int) : tot (pairs k x y) = 3 * k := by
  induction k with
  | zero => rfl
  | succ k ih => rw [show pairs (k + 1) x y = (1, [x, y]) :: pairs k x y from rfl, tot_cons, ih]; simp; omega
theorem pairs_snoc (k : Nat) (x y : Int) : pairs k x y ++ [(1, [x, y])] = pairs (k + 1) x y := (List.replicate_succ' ..).symm
set_option maxRecDepth 100000 in
set_option maxHeartbeats 1000000 in
theorem walkRoom (x y z : Int) (w : World) (hx : (Lit.int .u64 x).wf = true) (hy : (Lit.int .u64 y).wf = true) (hz : (Lit.int .u8 z).wf = true) :
    Calls Try.prog 6 #[.int .u64 x, .int .u64 y, .int .u8 z] w fun e w' => e = .returned (.bool true) ∧ Below w.heap.size w w' := by
  have ox : okW x := wf_u64 hx
  have oy : okW y := wf_u64 hy
  obtain ⟨z0, z1⟩ := wf_u8 hz
  obtain ⟨m, hm, hm41⟩ : ∃ m : Nat, z % 41 = m ∧ m < 41 := ⟨(z % 41).toNat, by omega, by omega⟩
  have HN := fun w => new_calls (3 * m + 2) w (by omega) (by omega)
  rw [show (((3 * m + 2 : Nat)) : Int) = 3 * (m : Int) + 2 by omega] at HN
  clear hx hy
  go_enter Try.func6, Try.ntmps6
  go_wp2_with fail
  refine (shown_calls _).mono ?_
  rintro e w0 ⟨rfl, hc0⟩
  go_wp2_with fail
  refine (HN _).mono ?_
  rintro e w1 ⟨g, bw, bh, rfl, ha, hc1, l1, l2, l3⟩
  go_wp2_with fail
  go_loopw [43] (fun i wr => ∃ k : Nat, k ≤ m ∧ i = .int .i64 k ∧ IsAr wr g bw bh (3 * m + 2) (pairs k x y) ∧ Chg [g, bw, bh] w1 wr) (fun i _ => m - (intOf i).toNat)
  case atStart => exact ⟨0, Nat.zero_le _, rfl, ha, Chg.refl _ _⟩
  case round =>
    obtain ⟨k, hk, rfl, har, hcr⟩ := hrel
    have hall : Chg [] w wr := (hc0.sub hc1).trans hcr (fun b hb => .inr (by have := hc0.size; simp only [List.mem_cons, List.not_mem_nil, or_false] at hb; rcases hb with rfl | rfl | rfl <;> omega))
    by_cases hlt : k < m
    · have ht := pairs_tot k x y
      clear ha hc1 hc0
      go_wp2_with fail
      refine (do_cons har x y ox oy (by omega) (pairs (k + 1) x y) (pairs_snoc k x y) _ rfl).mono ?_
      rintro e w2 ⟨rfl, ha2, hc2⟩
      go_wp2_with fail
      go_roundw
      case rel => exact ⟨k + 1, by omega, by go_num, ha2, hcr.same hc2⟩
      case measure => simp [intOf]; omega
    · obtain rfl : k = m := by omega
      have ht := pairs_tot k x y
      have s0 := hc0.size
      clear ha hc1 hcr hc0
      have hcr := hall
      have F : ∀ b, b ∈ [g, bw, bh] → b ∈ ([] : List Nat) ∨ w.heap.size ≤ b := by
        intro b hb; have := l1; have := l2; have := l3; simp only [List.mem_cons, List.not_mem_nil, or_false] at hb; rcases hb with rfl | rfl | rfl <;> exact .inr (by omega)
      cases hxy : (x == y)
      all_goals
        go_wp2_with fail
        refine (do_full har x y ox oy (by omega)).mono ?_
        rintro e w2 ⟨rfl, ha2, hc2⟩
        go_wp2_with fail
        refine (do_ask ha2 12 x ox (0, 1) rfl).mono ?_
        rintro e w3 ⟨rfl, ha3, hc3⟩
        go_wp2_with fail
        refine (do_odd ha3 13 x y ox oy (by decide) (by decide)).mono ?_
        rintro e w4 ⟨rfl, ha4, hc4⟩
        go_wp2_with fail
        refine (do_ask ha4 18 x ox (0, 1) rfl).mono ?_
        rintro e w5 ⟨rfl, ha5, hc5⟩
        go_wp2_with fail
        refine (do_odd ha5 0 x y ox oy (by decide) (by decide)).mono ?_
        rintro e w6 ⟨rfl, ha6, hc6⟩
        go_wp2_with fail
        refine (do_same ha6 x y ox oy _ (by rw [hxy])).mono ?_
        rintro e w7 ⟨rfl, ha7, hc7⟩
        have c7 := ((((hc2.sub hc3).same hc4).sub hc5).same hc6).same hc7
        go_wp2_with fail
        refine (used_calls ha7).mono ?_
        rintro e w8 ⟨rfl, rfl⟩
        have e1 : ((tot (pairs k x y) : Int) == 3 * (k : Int)) = true := by rw [ht]; first | rfl | simp
        go_wp2_with fail
        go_ret
        exact ⟨rfl, (hcr.trans c7 F).below⟩
end Go.Proofs.Ytoofnpecofcjjaa.Prim

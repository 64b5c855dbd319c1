/- The walk of PrimShares: for any two words the law answers true; no conditions. -/
import Derived.Test.YtoofnpecofcjjaaPrim3
namespace Go.Proofs.Ytoofnpecofcjjaa.Prim
open Go Go.RowKit Go.Proofs.Ytoofnpecofcjjaa.Heap Go.Proofs.Ytoofnpecofcjjaa.Word Go.Proofs.Ytoofnpecofcjjaa.Own Go.Proofs.Ytoofnpecofcjjaa.Ar Go.Proofs.Ytoofnpecofcjjaa.Pure
set_option maxRecDepth 100000 in
set_option maxHeartbeats 1000000 in
theorem walkShares (x y : Int) (w : World) (hx : (Lit.int .u64 x).wf = true) (hy : (Lit.int .u64 y).wf = true) :
    Calls Try.prog 8 #[.int .u64 x, .int .u64 y] w fun e w' => e = .returned (.bool true) ∧ Below w.heap.size w w' := by
  have ox : okW x := wf_u64 hx
  have oy : okW y := wf_u64 hy
  have exx : (x == x) = true := by simp
  have eyy : (y == y) = true := by simp
  have t0 : tot [] = 0 := rfl
  have t1 : tot [(1, [x, y])] = 3 := rfl
  have t2 : tot [(1, [x, y]), (1, [x, y])] = 6 := rfl
  have t3 : tot [(1, [x, y]), (1, [x, y]), (1, [1, 1])] = 9 := rfl
  clear hx hy
  go_enter Try.func8, Try.ntmps8
  go_wp2_with fail
  refine (shown_calls _).mono ?_
  rintro e w0 ⟨rfl, hc0⟩
  go_wp2_with fail
  refine (new_calls 20 _ (by decide) (by decide)).mono ?_
  rintro e w1 ⟨g, bw, bh, rfl, ha, hc1, l1, l2, l3⟩
  go_wp2_with fail
  refine (do_cons ha x y ox oy (by decide) [(1, [x, y])] rfl 1 rfl).mono ?_
  rintro e w2 ⟨rfl, ha2, hc2⟩
  go_wp2_with fail
  refine (do_cons ha2 x y ox oy (by rw [t1]; decide) [(1, [x, y]), (1, [x, y])] rfl 25 (by rw [t1]; rfl)).mono ?_
  rintro e w3 ⟨rfl, ha3, hc3⟩
  go_wp2_with fail
  refine (do_cons ha3 1 1 (by decide) (by decide) (by rw [t2]; decide) [(1, [x, y]), (1, [x, y]), (1, [1, 1])] rfl 49 (by rw [t2]; rfl)).mono ?_
  rintro e w4 ⟨rfl, ha4, hc4⟩
  have c4 := (hc2.same hc3).same hc4
  clear ha2 ha3 hc2 hc3 hc4
  go_wp2_with fail
  refine (do_same ha4 1 25 (by decide) (by decide) 10 (by decide)).mono ?_
  rintro e w5 ⟨rfl, ha5, hc5⟩
  go_wp2_with fail
  refine (do_ask ha5 13 1 (by decide) (x, 0) rfl).mono ?_
  rintro e w6 ⟨rfl, ha6, hc6⟩
  go_wp2_with fail
  refine (do_ask ha6 13 25 (by decide) (x, 0) rfl).mono ?_
  rintro e w7 ⟨rfl, ha7, hc7⟩
  go_wp2_with fail
  refine (do_ask ha7 14 1 (by decide) (y, 0) rfl).mono ?_
  rintro e w8 ⟨rfl, ha8, hc8⟩
  go_wp2_with fail
  refine (do_ask ha8 14 25 (by decide) (y, 0) rfl).mono ?_
  rintro e w9 ⟨rfl, ha9, hc9⟩
  go_wp2_with fail
  refine (do_ask ha9 13 49 (by decide) (1, 0) rfl).mono ?_
  rintro e w10 ⟨rfl, ha10, hc10⟩
  go_wp2_with fail
  refine (do_ask ha10 14 49 (by decide) (1, 0) rfl).mono ?_
  rintro e w11 ⟨rfl, ha11, hc11⟩
  have c11 := ((((((c4.same hc5).sub hc6).sub hc7).sub hc8).sub hc9).sub hc10).sub hc11
  clear ha4 ha5 ha6 ha7 ha8 ha9 ha10 hc5 hc6 hc7 hc8 hc9 hc10 hc11 c4
  go_wp2_with fail
  refine (do_same ha11 1 1 (by decide) (by decide) 18 (by decide)).mono ?_
  rintro e w12 ⟨rfl, ha12, hc12⟩
  go_wp2_with fail
  refine (used_calls ha12).mono ?_
  rintro e w13 ⟨rfl, rfl⟩
  go_wp2_with fail
  go_ret
  exact ⟨rfl, ((hc0.sub hc1).trans (c11.same hc12) (fun b hb => .inr (by have := hc0.size; simp only [List.mem_cons, List.not_mem_nil, or_false] at hb; rcases hb with rfl | rfl | rfl <;> omega))).below⟩
end Go.Proofs.Ytoofnpecofcjjaa.Prim

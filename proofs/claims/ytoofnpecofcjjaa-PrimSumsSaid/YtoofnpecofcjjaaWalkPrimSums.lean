/- The walk of PrimSums: for any two words and any of the seven the law answers true; no conditions. -/
import Derived.Test.YtoofnpecofcjjaaPrim3
namespace Go.Proofs.Ytoofnpecofcjjaa.Prim
open Go Go.RowKit Go.Proofs.Ytoofnpecofcjjaa.Heap Go.Proofs.Ytoofnpecofcjjaa.Word Go.Proofs.Ytoofnpecofcjjaa.Own Go.Proofs.Ytoofnpecofcjjaa.Ar Go.Proofs.Ytoofnpecofcjjaa.Pure
set_option maxRecDepth 100000 in
set_option maxHeartbeats 1000000 in
theorem walkSums (x y z : Int) (w : World) (hx : (Lit.int .u64 x).wf = true) (hy : (Lit.int .u64 y).wf = true) (hz : (Lit.int .u8 z).wf = true) :
    Calls Try.prog 7 #[.int .u64 x, .int .u64 y, .int .u8 z] w fun e w' => e = .returned (.bool true) ∧ Below w.heap.size w w' := by
  have ox : okW x := wf_u64 hx
  have oy : okW y := wf_u64 hy
  obtain ⟨z0, z1⟩ := wf_u8 hz
  have t0 : tot [] = 0 := rfl
  clear hx hy
  rcases (show z % 7 = 0 ∨ z % 7 = 1 ∨ z % 7 = 2 ∨ z % 7 = 3 ∨ z % 7 = 4 ∨ z % 7 = 5 ∨ z % 7 = 6 by omega) with hm | hm | hm | hm | hm | hm | hm
  · have exx : ((doP (signP 1) x y).1 == (doP (signP 1) x y).1) = true := by simp
    have eyy : ((doP (signP 1) x y).2 == (doP (signP 1) x y).2) = true := by simp
    go_enter Try.func7, Try.ntmps7
    go_wp2_with fail
    refine (shown_calls _).mono ?_
    rintro e w0 ⟨rfl, hc0⟩
    go_wp2_with fail
    refine (new_calls 9 _ (by decide) (by decide)).mono ?_
    rintro e w1 ⟨g, bw, bh, rfl, ha, hc1, l1, l2, l3⟩
    go_wp2_with fail
    refine (do_sum (.pointer (some ⟨g, 0, none⟩)) 1 x y (by decide) (by decide) ox oy).mono ?_
    rintro e w2 ⟨rfl, hc2⟩
    go_wp2_with fail
    refine (c_Do (signP 1) x y _ ox.1 ox.2 oy.1 oy.2).mono ?_
    rintro e w3 ⟨rfl, hc3⟩
    go_wp2_with fail
    refine (do_sum (.pointer none) 1 x y (by decide) (by decide) ox oy).mono ?_
    rintro e w4 ⟨rfl, hc4⟩
    have c4 := (hc2.same (Chg.of_below hc3)).same hc4
    have ha4 := ha.sub c4
    clear ha hc2 hc3 hc4
    go_wp2_with fail
    refine (used_calls ha4).mono ?_
    rintro e w5 ⟨rfl, rfl⟩
    go_wp2_with fail
    go_ret
    exact ⟨rfl, ((hc0.sub hc1).sub c4).below⟩
  · have exx : ((doP (signP 2) x y).1 == (doP (signP 2) x y).1) = true := by simp
    have eyy : ((doP (signP 2) x y).2 == (doP (signP 2) x y).2) = true := by simp
    go_enter Try.func7, Try.ntmps7
    go_wp2_with fail
    refine (shown_calls _).mono ?_
    rintro e w0 ⟨rfl, hc0⟩
    go_wp2_with fail
    refine (new_calls 9 _ (by decide) (by decide)).mono ?_
    rintro e w1 ⟨g, bw, bh, rfl, ha, hc1, l1, l2, l3⟩
    go_wp2_with fail
    refine (do_sum (.pointer (some ⟨g, 0, none⟩)) 2 x y (by decide) (by decide) ox oy).mono ?_
    rintro e w2 ⟨rfl, hc2⟩
    go_wp2_with fail
    refine (c_Do (signP 2) x y _ ox.1 ox.2 oy.1 oy.2).mono ?_
    rintro e w3 ⟨rfl, hc3⟩
    go_wp2_with fail
    refine (do_sum (.pointer none) 2 x y (by decide) (by decide) ox oy).mono ?_
    rintro e w4 ⟨rfl, hc4⟩
    have c4 := (hc2.same (Chg.of_below hc3)).same hc4
    have ha4 := ha.sub c4
    clear ha hc2 hc3 hc4
    go_wp2_with fail
    refine (used_calls ha4).mono ?_
    rintro e w5 ⟨rfl, rfl⟩
    go_wp2_with fail
    go_ret
    exact ⟨rfl, ((hc0.sub hc1).sub c4).below⟩
  · have exx : ((doP (signP 3) x y).1 == (doP (signP 3) x y).1) = true := by simp
    have eyy : ((doP (signP 3) x y).2 == (doP (signP 3) x y).2) = true := by simp
    go_enter Try.func7, Try.ntmps7
    go_wp2_with fail
    refine (shown_calls _).mono ?_
    rintro e w0 ⟨rfl, hc0⟩
    go_wp2_with fail
    refine (new_calls 9 _ (by decide) (by decide)).mono ?_
    rintro e w1 ⟨g, bw, bh, rfl, ha, hc1, l1, l2, l3⟩
    go_wp2_with fail
    refine (do_sum (.pointer (some ⟨g, 0, none⟩)) 3 x y (by decide) (by decide) ox oy).mono ?_
    rintro e w2 ⟨rfl, hc2⟩
    go_wp2_with fail
    refine (c_Do (signP 3) x y _ ox.1 ox.2 oy.1 oy.2).mono ?_
    rintro e w3 ⟨rfl, hc3⟩
    go_wp2_with fail
    refine (do_sum (.pointer none) 3 x y (by decide) (by decide) ox oy).mono ?_
    rintro e w4 ⟨rfl, hc4⟩
    have c4 := (hc2.same (Chg.of_below hc3)).same hc4
    have ha4 := ha.sub c4
    clear ha hc2 hc3 hc4
    go_wp2_with fail
    refine (used_calls ha4).mono ?_
    rintro e w5 ⟨rfl, rfl⟩
    go_wp2_with fail
    go_ret
    exact ⟨rfl, ((hc0.sub hc1).sub c4).below⟩
  · have exx : ((doP (signP 4) x y).1 == (doP (signP 4) x y).1) = true := by simp
    have eyy : ((doP (signP 4) x y).2 == (doP (signP 4) x y).2) = true := by simp
    go_enter Try.func7, Try.ntmps7
    go_wp2_with fail
    refine (shown_calls _).mono ?_
    rintro e w0 ⟨rfl, hc0⟩
    go_wp2_with fail
    refine (new_calls 9 _ (by decide) (by decide)).mono ?_
    rintro e w1 ⟨g, bw, bh, rfl, ha, hc1, l1, l2, l3⟩
    go_wp2_with fail
    refine (do_sum (.pointer (some ⟨g, 0, none⟩)) 4 x y (by decide) (by decide) ox oy).mono ?_
    rintro e w2 ⟨rfl, hc2⟩
    go_wp2_with fail
    refine (c_Do (signP 4) x y _ ox.1 ox.2 oy.1 oy.2).mono ?_
    rintro e w3 ⟨rfl, hc3⟩
    go_wp2_with fail
    refine (do_sum (.pointer none) 4 x y (by decide) (by decide) ox oy).mono ?_
    rintro e w4 ⟨rfl, hc4⟩
    have c4 := (hc2.same (Chg.of_below hc3)).same hc4
    have ha4 := ha.sub c4
    clear ha hc2 hc3 hc4
    go_wp2_with fail
    refine (used_calls ha4).mono ?_
    rintro e w5 ⟨rfl, rfl⟩
    go_wp2_with fail
    go_ret
    exact ⟨rfl, ((hc0.sub hc1).sub c4).below⟩
  · have exx : ((doP (signP 5) x y).1 == (doP (signP 5) x y).1) = true := by simp
    have eyy : ((doP (signP 5) x y).2 == (doP (signP 5) x y).2) = true := by simp
    go_enter Try.func7, Try.ntmps7
    go_wp2_with fail
    refine (shown_calls _).mono ?_
    rintro e w0 ⟨rfl, hc0⟩
    go_wp2_with fail
    refine (new_calls 9 _ (by decide) (by decide)).mono ?_
    rintro e w1 ⟨g, bw, bh, rfl, ha, hc1, l1, l2, l3⟩
    go_wp2_with fail
    refine (do_sum (.pointer (some ⟨g, 0, none⟩)) 5 x y (by decide) (by decide) ox oy).mono ?_
    rintro e w2 ⟨rfl, hc2⟩
    go_wp2_with fail
    refine (c_Do (signP 5) x y _ ox.1 ox.2 oy.1 oy.2).mono ?_
    rintro e w3 ⟨rfl, hc3⟩
    go_wp2_with fail
    refine (do_sum (.pointer none) 5 x y (by decide) (by decide) ox oy).mono ?_
    rintro e w4 ⟨rfl, hc4⟩
    have c4 := (hc2.same (Chg.of_below hc3)).same hc4
    have ha4 := ha.sub c4
    clear ha hc2 hc3 hc4
    go_wp2_with fail
    refine (used_calls ha4).mono ?_
    rintro e w5 ⟨rfl, rfl⟩
    go_wp2_with fail
    go_ret
    exact ⟨rfl, ((hc0.sub hc1).sub c4).below⟩
  · have exx : ((doP (signP 6) x y).1 == (doP (signP 6) x y).1) = true := by simp
    have eyy : ((doP (signP 6) x y).2 == (doP (signP 6) x y).2) = true := by simp
    go_enter Try.func7, Try.ntmps7
    go_wp2_with fail
    refine (shown_calls _).mono ?_
    rintro e w0 ⟨rfl, hc0⟩
    go_wp2_with fail
    refine (new_calls 9 _ (by decide) (by decide)).mono ?_
    rintro e w1 ⟨g, bw, bh, rfl, ha, hc1, l1, l2, l3⟩
    go_wp2_with fail
    refine (do_sum (.pointer (some ⟨g, 0, none⟩)) 6 x y (by decide) (by decide) ox oy).mono ?_
    rintro e w2 ⟨rfl, hc2⟩
    go_wp2_with fail
    refine (c_Do (signP 6) x y _ ox.1 ox.2 oy.1 oy.2).mono ?_
    rintro e w3 ⟨rfl, hc3⟩
    go_wp2_with fail
    refine (do_sum (.pointer none) 6 x y (by decide) (by decide) ox oy).mono ?_
    rintro e w4 ⟨rfl, hc4⟩
    have c4 := (hc2.same (Chg.of_below hc3)).same hc4
    have ha4 := ha.sub c4
    clear ha hc2 hc3 hc4
    go_wp2_with fail
    refine (used_calls ha4).mono ?_
    rintro e w5 ⟨rfl, rfl⟩
    go_wp2_with fail
    go_ret
    exact ⟨rfl, ((hc0.sub hc1).sub c4).below⟩
  · have exx : ((doP (signP 7) x y).1 == (doP (signP 7) x y).1) = true := by simp
    have eyy : ((doP (signP 7) x y).2 == (doP (signP 7) x y).2) = true := by simp
    go_enter Try.func7, Try.ntmps7
    go_wp2_with fail
    refine (shown_calls _).mono ?_
    rintro e w0 ⟨rfl, hc0⟩
    go_wp2_with fail
    refine (new_calls 9 _ (by decide) (by decide)).mono ?_
    rintro e w1 ⟨g, bw, bh, rfl, ha, hc1, l1, l2, l3⟩
    go_wp2_with fail
    refine (do_sum (.pointer (some ⟨g, 0, none⟩)) 7 x y (by decide) (by decide) ox oy).mono ?_
    rintro e w2 ⟨rfl, hc2⟩
    go_wp2_with fail
    refine (c_Do (signP 7) x y _ ox.1 ox.2 oy.1 oy.2).mono ?_
    rintro e w3 ⟨rfl, hc3⟩
    go_wp2_with fail
    refine (do_sum (.pointer none) 7 x y (by decide) (by decide) ox oy).mono ?_
    rintro e w4 ⟨rfl, hc4⟩
    have c4 := (hc2.same (Chg.of_below hc3)).same hc4
    have ha4 := ha.sub c4
    clear ha hc2 hc3 hc4
    go_wp2_with fail
    refine (used_calls ha4).mono ?_
    rintro e w5 ⟨rfl, rfl⟩
    go_wp2_with fail
    go_ret
    exact ⟨rfl, ((hc0.sub hc1).sub c4).below⟩
end Go.Proofs.Ytoofnpecofcjjaa.Prim

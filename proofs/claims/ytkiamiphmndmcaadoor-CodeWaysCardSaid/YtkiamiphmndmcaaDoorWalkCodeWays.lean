/- The walk of CodeWays: for any blocks and ways the law answers true; its premises are what the row gives of its arguments. -/
import Derived.Test.YtkiamiphmndmcaaDoorWaysP
import Derived.Test.YtkiamiphmndmcaaDoorRd11
import Derived.Test.YtkiamiphmndmcaaDoorHeap
import Derived.Test.YtkiamiphmndmcaaDoorKdMore
import Derived.Lib.Hide
namespace Go.Proofs.YtkiamiphmndmcaaDoor.PCodes
open Go Go.RowKit Go.Proofs.YtkiamiphmndmcaaDoor.Heap Go.Proofs.YtkiamiphmndmcaaDoorW.PrintWords Go.Proofs.YtkiamiphmndmcaaDoorW.PrintMore
theorem shown_yes : eddywheellaw11_shown.f 5 = some true := by decide +kernel
set_option maxRecDepth 100000 in
set_option maxHeartbeats 8000000 in
theorem walkWays (A : Option Addr) (c : Nat) (l : List (S31)) (which : Int) (A2 : Option Addr) (c2 : Nat) (ways : List Bool) (w : World) (hF : Kd.F k31 w (fun _ => True) A l.length l) (hl : l.length ≤ c) (hw : l.length ≤ maxLen ∧ ∀ b ∈ l, Lib2.blockWf b)
    (h8 : (Lit.int .u8 which).wf = true) (hF2 : Kd.F Kd.bool w (fun _ => True) A2 ways.length ways) (_hl2 : ways.length ≤ c2) (hw2 : ways.length ≤ maxLen ∧ ∀ b ∈ ways, (fun _ => True) b) :
    Calls Tryd.prog 3 #[.slice A l.length c, .int .u8 which, .slice A2 ways.length c2] w fun e w' => e = .returned (.bool true) ∧ Below w.heap.size w w' := by
  obtain ⟨f1, f2, f3⟩ := Lib2.rd_fine hw
  have FO := Lib.hid (fewP_ok l f3)
  have FL := fewP_len l
  have FE := Lib.hid (few_ok l f1 f2)
  have HF := Lib.hid hF
  have HF2 := Lib.hid hF2
  have hwl : ways.length ≤ 9223372036854775807 := hw2.1
  have b8 : 0 ≤ which ∧ which < 256 := by
    have e8 : IntKind.u8.min = 0 ∧ IntKind.u8.max = 255 := by decide
    simp only [Lit.wf, e8.1, e8.2, Bool.and_eq_true, decide_eq_true_eq] at h8
    omega
  obtain ⟨w0, w8⟩ := b8
  clear hw hw2 h8 f1 f2 f3 hF hF2
  go_enter Tryd.func3, Tryd.ntmps3
  go_wp2_with fail
  refine (eddywheellaw11_shown.calls 5 true _ shown_yes).mono ?_
  rintro e w1 ⟨rfl, hb1⟩
  have HB1 := Lib.hid hb1
  clear hb1
  go_wp2_with fail
  refine (eddywheellaw11_few.calls (l.length + 1) (fun _ => True) A c l (fewP l) w1 (Kd.V_mk hl (Kd.F_below HF.out HB1.out)) FE.out).mono ?_
  rintro e w2 ⟨v2, rfl, hN2, hb2⟩
  obtain ⟨A3, c3, hv3, hl3, hC3⟩ := Kd.N_reads hN2
  subst hv3
  have HC3 := Lib.hid hC3
  have HB2 := Lib.hid (below_then HB1.out HB1.out.size hb2)
  clear hC3 hN2 hb2 HB1 FE hl
  generalize fewP l = x at *
  have hck := check_some x (fun b hb => (FO.out b hb).1)
  by_cases hx : x.length = 0
  · rw [if_pos hx] at hck
    have HCK := Lib.hid hck
    have t1 : ((x.length : Int) == 0) = true := by simp [hx]
    clear hck hx
    go_wp2_with fail
    refine (code_Check.calls A3 c3 x 0 0 1 _ HC3.out hl3 HCK.out).mono ?_
    rintro e w4 ⟨rfl, hb4⟩
    have HB4 := Lib.hid (below_then HB2.out HB2.out.size hb4)
    clear hb4
    go_wp2_with fail
    go_ret
    exact ⟨rfl, HB4.out⟩
  · rw [if_neg hx] at hck
    have t1 : ((x.length : Int) == 0) = false := by simpa using hx
    have hcodes := chk_codes x.length x 0
    have hfine := chk_fine x.length x 0
    obtain ⟨r, hr⟩ : ∃ r, chkRun x.length x 0 = r := ⟨_, rfl⟩
    rw [hr] at hck hcodes hfine
    obtain ⟨r1, r2, r3⟩ := r
    simp only at hcodes hfine
    by_cases h3 : r3 = 0
    case neg =>
      obtain rfl : r3 = 110 := by omega
      have HCK := Lib.hid hck
      clear hck hx hcodes hfine hr h3 t1
      go_wp2_with fail
      refine (code_Check.calls A3 c3 x r1 r2 110 _ HC3.out hl3 HCK.out).mono ?_
      rintro e w4 ⟨rfl, hb4⟩
      have HB4 := Lib.hid (below_then HB2.out HB2.out.size hb4)
      clear hb4
      go_wp2_with fail
      go_ret
      exact ⟨rfl, HB4.out⟩
    subst h3
    have HCK := Lib.hid hck
    obtain ⟨q, hq⟩ : ∃ q : Nat, which % (x.length : Int) = q := ⟨(which % (x.length : Int)).toNat, by rw [Int.toNat_of_nonneg (Int.emod_nonneg _ (by omega))]⟩
    have hqx : q < x.length := by
      have := Int.emod_lt_of_pos which (show (0 : Int) < x.length by omega)
      omega
    obtain ⟨b, hbq⟩ : ∃ b, x[q]? = some b := ⟨_, List.getElem?_eq_getElem hqx⟩
    obtain ⟨hbo, hb60⟩ := FO.out b (List.mem_of_getElem? hbq)
    obtain ⟨d, hd1, hd2, hd3, hd4, _, _, _, hd5, hd6⟩ := bad_none hbo (hfine rfl q b hbq)
    have FN := Lib.hid (fine_of hd2 hd3 hd4 hd5 hd6)
    have HD := Lib.hid hd1
    have hrd : rd_T31 x (q : Int) = b := by
      unfold rd_T31; rw [Int.toNat_natCast, List.getD_eq_getElem?_getD, hbq]; rfl
    have HRD := Lib.hid hrd
    have x0 : (0 : Int) < x.length := by omega
    have bq0 : (0 : Int) ≤ (q : Int) := Int.natCast_nonneg _
    have bq1 : (q : Int) < (x.length : Int) := by omega
    clear hck hcodes hfine hr hbq hd1 hd2 hd4 hd5 hd6 hrd hbo hx
    go_wp2_with fail
    refine (code_Check.calls A3 c3 x r1 r2 0 _ HC3.out hl3 HCK.out).mono ?_
    rintro e w4 ⟨rfl, hb4⟩
    have HC4 := Lib.hid (Kd.C_below HC3.out hb4)
    have HB4 := Lib.hid (below_then HB2.out HB2.out.size hb4)
    clear hb4 HC3 HB2
    obtain ⟨ad, A1, c1, hA, z0, z1, hl1, hC1⟩ := at_T31 HC4.out (q : Int) (by omega) (by omega)
    rw [HRD.out] at z0 z1 hl1 hC1
    rw [Int.toNat_natCast] at z0 z1
    cases hA
    have HC1 := Lib.hid hC1
    clear hC1
    go_wp2_with fail
    have HC5 := Lib.hid (Kd.C_alloc (HC1.out) (.cells #[.int .i64 b.f0, .slice A1 b.f1.length c1] 31))
    have HX5 : Hid ((w4.alloc (.cells #[.int .i64 b.f0, .slice A1 b.f1.length c1] 31)).heap[w4.heap.size]? = some (.cells #[.int .i64 b.f0, .slice A1 b.f1.length c1] 31 (0, 0))) := Lib.hid (Heap.blk_new rfl)
    have HB5 := Lib.hid (below_alloc HB4.out (.cells #[.int .i64 b.f0, .slice A1 b.f1.length c1] 31))
    refine (code_Depth.calls b.f0 A1 c1 b.f1 d true _ HC5.out hl1 HD.out).mono ?_
    rintro e w6 ⟨v6, rfl, hR6, hb6⟩
    obtain ⟨A6, c6, hv6, hl6, hC6⟩ := Kd.R_reads hR6
    subst hv6
    have hdl := FN.out.len
    rw [hdl] at hC6 hl6
    rw [hdl]
    have HC6 := Lib.hid hC6
    have HB6 := Lib.hid (below_then HB5.out HB5.out.size hb6)
    have HI6 := Lib.hid (Kd.C_below HC5.out hb6)
    have HX6 := Lib.hid ((hb6.block _ (Heap.blk_lt HX5.out)).trans HX5.out)
    clear hdl hC6 hR6 hb6 HC5 HX5 HB5 HB4 HC4 HC1 z0 z1 HCK HD HRD FO HF hd3
    generalize w4.heap.size = pb at *
    have c60 : w6.cell? ⟨pb, 0, none⟩ = some (.int .i64 b.f0) := by rw [Heap.blk_cell HX6.out]; rfl
    have c61 : w6.cell? ⟨pb, 1, none⟩ = some (.slice A1 b.f1.length c1) := by rw [Heap.blk_cell HX6.out]; rfl
    have t2 : ((b.f1.length : Int) != (b.f1.length : Int)) = false := by simp
    go_wp2_with fail
    clear c60 c61 t2
    go_loopw [15, 16, 71] (fun u v n wx => ∃ k : Nat, v = .int .i64 k ∧ k < b.f1.length ∧ u = .int .i64 (d.getD k 0) ∧ ∃ r : Nat, n = .int .i64 r ∧ r ≤ k ∧ Hid (Below w6.heap.size w6 wx)) (fun _ _ n _ => b.f1.length - (intOf n).toNat)
    case atStart =>
      refine ⟨0, rfl, FN.out.pos, ?_, 0, rfl, Nat.le_refl _, Lib.hid (Below.refl _ _)⟩
      rw [FN.out.zero]
    case round =>
      obtain ⟨k, rfl, hk, rfl, r, rfl, hr, HB⟩ := hrel
      obtain ⟨i, hi⟩ : ∃ i, b.f1[k]? = some i := ⟨_, List.getElem?_eq_getElem hk⟩
      obtain ⟨y0, yk, y1, y2, y3, y4⟩ := FN.out.at_ k i hi
      have hrd : rd_T38 b.f1 (k : Int) = i := by
        unfold rd_T38; rw [Int.toNat_natCast, List.getD_eq_getElem?_getD, hi]; rfl
      have hdk : rd d (k : Int) = d.getD k 0 := by unfold rd; rw [Int.toNat_natCast]
      obtain ⟨aI, hAI, i0, i1, i2, i3⟩ := at_T38 (Kd.C_below HI6.out HB.out) (k : Int) (by omega) (by omega)
      rw [hrd] at i0 i1 i2 i3
      rw [Int.toNat_natCast] at i0 i1 i2 i3
      cases hAI
      obtain ⟨aD, hAD, d0⟩ := Kd.at_int (Kd.C_below HC6.out HB.out) (k : Int) (by omega) (by omega)
      rw [hdk, Int.toNat_natCast] at d0
      cases hAD
      have hx := (HB.out.block _ (Heap.blk_lt HX6.out)).trans HX6.out
      have b0 : wr.cell? ⟨pb, 0, none⟩ = some (.int .i64 b.f0) := by rw [Heap.blk_cell hx]; rfl
      have b1 : wr.cell? ⟨pb, 1, none⟩ = some (.slice (some aI) b.f1.length c1) := by rw [Heap.blk_cell hx]; rfl
      have bk0 : (0 : Int) ≤ (k : Int) := Int.natCast_nonneg _
      have bk1 : (k : Int) < (b.f1.length : Int) := by omega
      have br1 : (r : Int) < (b.f1.length : Int) + 1 := by omega
      have Y3 := Lib.hid y3
      have Y4 := Lib.hid y4
      have Y1 := Lib.hid (And.intro y1 y2)
      have key : ∀ p ∈ followsP i (k : Int), ∃ q : Nat, p = q ∧ k < q ∧ q < b.f1.length ∧ d.getD q 0 = leftP i (d.getD k 0) := by
        intro p hp
        obtain ⟨u1, u2, u3⟩ := Y4.out p hp
        exact ⟨p.toNat, by omega, by omega, by omega, u3⟩
      have KEY := Lib.hid key
      have HX := Lib.hid hx
      clear hi hrd hdk hx y3 y4 key y1 y2
      obtain ⟨f0, f1, f2, f3⟩ := i
      have hop : ∃ m, hasP f0 = some m := by
        have h := Y3.out
        unfold mayIns at h
        cases hm : hasP f0 with
        | none => rw [hm] at h; cases h
        | some m => exact ⟨m, rfl⟩
      obtain ⟨m, hm⟩ := hop
      generalize hz : d.getD k 0 = z at *
      have HZ := Lib.hid hz
      clear hz
      simp only at i0 i1 i2 i3
      have t3 : decide ((k : Int) < 0) = false := by simp
      have t4 : decide ((k : Int) ≥ (b.f1.length : Int)) = false := by simp; omega
      have t5 : (z != z) = false := by simp
      have t6 : decide (z < 0) = false := by simp; omega
      have t7 : decide ((r : Int) < (b.f1.length : Int) + 1) = true := by simp; omega
      have HBW := Lib.hid (below_then HB6.out HB6.out.size HB.out)
      have nxt : ((k : Int) + 1) ∈ followsP ⟨f0, f1, f2, f3⟩ (k : Int) → k + 1 < b.f1.length ∧ d.getD (k + 1) 0 = leftP ⟨f0, f1, f2, f3⟩ z := by
        intro hm
        obtain ⟨q, e, g1, g2, g3⟩ := KEY.out _ hm
        obtain rfl : q = k + 1 := by omega
        exact ⟨g2, g3⟩
      have NXT := Lib.hid nxt
      clear nxt Y4
      rcases hasP_ops hm with rfl | rfl | rfl | rfl | rfl | rfl | rfl | rfl | rfl | rfl | rfl | rfl | rfl | rfl | rfl | rfl
      all_goals clear hm
      case inr.inr.inr.inr.inr.inr.inl =>
        obtain ⟨g2, g3⟩ := NXT.out (by simp [followsP])
        rw [show leftP _ z = z + 1 from by simp [leftP, takesP]] at g3
        have G3 := Lib.hid g3
        have t8 : decide (z + 1 < 0) = false := by simp; omega
        clear g3 NXT KEY
        go_wp2_with fail
        go_roundw
        case rel => exact ⟨k + 1, by go_num, g2, by rw [G3.out], r + 1, by go_num, by omega, Lib.hid (below_alloc HB.out _)⟩
        case measure => simp [intOf]; omega
      case inr.inr.inr.inr.inr.inr.inr.inl =>
        obtain ⟨q', rfl, g1, g2, g3⟩ := KEY.out f1 (by simp [followsP])
        rw [show leftP _ z = z from by simp [leftP, takesP]] at g3
        have G3 := Lib.hid g3
        clear g3 NXT KEY
        go_wp2_with fail
        go_roundw
        case rel => exact ⟨q', rfl, g2, by rw [G3.out], r + 1, by go_num, by omega, Lib.hid (below_alloc HB.out _)⟩
        case measure => simp [intOf]; omega
      case inr.inr.inr.inr.inr.inr.inr.inr.inl =>
        obtain ⟨q', rfl, g1, g2, g3⟩ := KEY.out f1 (by simp [followsP])
        obtain ⟨g4, g5⟩ := NXT.out (by simp [followsP])
        rw [show leftP _ z = z from by simp [leftP, takesP]] at g3 g5
        have G3 := Lib.hid g3
        have G5 := Lib.hid g5
        clear g3 g5 NXT KEY
        by_cases hrw : r < ways.length
        · have t9 : decide ((r : Int) < (ways.length : Int)) = true := by simpa using hrw
          have br2 : (r : Int) < (ways.length : Int) := by omega
          have br0 : (0 : Int) ≤ (r : Int) := Int.natCast_nonneg _
          obtain ⟨aW, hAW, e0⟩ := Kd.at_bool (Kd.F_now (Kd.F_below HF2.out HBW.out)) (r : Int) (by omega) (by omega)
          rw [Int.toNat_natCast] at e0
          cases hAW
          generalize rdOf false ways (r : Int) = wv at *
          have e1 : ∀ o, (wr.alloc o).cell? (aW.add r) = some (.bool wv) := fun o => Heap.Chg.cell ((Heap.Chg.refl [] wr).alloc o) e0 (by simp)
          clear e0
          cases wv
          · go_wp2_with fail
            go_roundw
            case rel => exact ⟨k + 1, by go_num, g4, by rw [G5.out], r + 1, by go_num, by omega, Lib.hid (below_alloc HB.out _)⟩
            case measure => simp [intOf]; omega
          · go_wp2_with fail
            go_roundw
            case rel => exact ⟨q', rfl, g2, by rw [G3.out], r + 1, by go_num, by omega, Lib.hid (below_alloc HB.out _)⟩
            case measure => simp [intOf]; omega
        · have t9 : decide ((r : Int) < (ways.length : Int)) = false := by simpa using hrw
          go_wp2_with fail
          go_roundw
          case rel => exact ⟨k + 1, by go_num, g4, by rw [G5.out], r + 1, by go_num, by omega, Lib.hid (below_alloc HB.out _)⟩
          case measure => simp [intOf]; omega
      case inr.inr.inr.inr.inr.inr.inr.inr.inr.inr.inl =>
        obtain ⟨g2, g3⟩ := NXT.out (by simp [followsP])
        obtain ⟨v0, v1⟩ := Y1.out
        rw [show takesP _ = f2 from by simp [takesP]] at v0 v1
        rw [show leftP _ z = z - f2 from by simp [leftP, takesP]] at g3
        have G3 := Lib.hid g3
        have t8 : decide (z - f2 < 0) = false := by simp; omega
        clear g3 NXT KEY
        go_wp2_with fail
        go_roundw
        case rel => exact ⟨k + 1, by go_num, g2, by rw [G3.out], r + 1, by go_num, by omega, Lib.hid (below_alloc HB.out _)⟩
        case measure => simp [intOf]; omega
      case inr.inr.inr.inr.inr.inr.inr.inr.inr.inr.inr.inl =>
        obtain ⟨g2, g3⟩ := NXT.out (by simp [followsP])
        obtain ⟨v0, v1⟩ := Y1.out
        rw [show takesP _ = f1 from by simp [takesP]] at v0 v1
        rw [show leftP _ z = z - f1 from by simp [leftP, takesP]] at g3
        have G3 := Lib.hid g3
        have t8 : decide (z - f1 < 0) = false := by simp; omega
        clear g3 NXT KEY
        go_wp2_with fail
        go_roundw
        case rel => exact ⟨k + 1, by go_num, g2, by rw [G3.out], r + 1, by go_num, by omega, Lib.hid (below_alloc HB.out _)⟩
        case measure => simp [intOf]; omega
      case inr.inr.inr.inr.inr.inr.inr.inr.inr.inr.inr.inr.inl =>
        have hm := Y3.out
        have t8 : (z == f1) = true := by
          unfold mayIns at hm
          simp only [show hasP 13 = some 1 from rfl] at hm
          split at hm
          · cases hm
          · simpa using hm
        clear hm NXT KEY
        go_wp2_with fail
        go_ret
        exact ⟨rfl, below_alloc HBW.out _⟩
      case inr.inr.inr.inr.inr.inr.inr.inr.inr.inr.inr.inr.inr.inr.inl =>
        have hm := Y3.out
        have t8 : (z == 0) = true := by
          unfold mayIns at hm
          simp only [show hasP 15 = some 0 from rfl] at hm
          split at hm
          · cases hm
          · simpa using hm
        clear hm NXT KEY
        go_wp2_with fail
        go_ret
        exact ⟨rfl, below_alloc HBW.out _⟩
      case inr.inr.inr.inr.inr.inr.inr.inr.inr.inr.inr.inr.inr.inr.inr =>
        have hm := Y3.out
        have t8 : (z == 0) = true := by
          unfold mayIns at hm
          simp only [show hasP 16 = some 0 from rfl] at hm
          split at hm
          · cases hm
          · simpa using hm
        clear hm NXT KEY
        go_wp2_with fail
        go_ret
        exact ⟨rfl, below_alloc HBW.out _⟩
      all_goals
        obtain ⟨g2, g3⟩ := NXT.out (by simp [followsP])
        rw [show leftP _ z = z from by simp [leftP, takesP]] at g3
        have G3 := Lib.hid g3
        clear g3 NXT KEY
        go_wp2_with fail
        go_roundw
        case rel => exact ⟨k + 1, by go_num, g2, by rw [G3.out], r + 1, by go_num, by omega, Lib.hid (below_alloc HB.out _)⟩
        case measure => simp [intOf]; omega
end Go.Proofs.YtkiamiphmndmcaaDoor.PCodes

/- The walk of ShowShort: for any numbers the law answers true; its premises are what the row gives. -/
import Derived.Test.YtomhkemdafiphaaGreatDoorShowN
import Derived.Test.YtomhkemdafiphaaGreatDoorRows
namespace Go.Proofs.YtomhkemdafiphaaGreatDoor.ShowC
open Go.Proofs.YtomhkemdafiphaaGreatDoor.Word Go Go.RowKit Go.Proofs.YtomhkemdafiphaaGreatDoor.Heap Go.Proofs.YtomhkemdafiphaaGreatDoor.ReadP Go.Proofs.YtomhkemdafiphaaGreatDoor.TreeP Go.Proofs.YtomhkemdafiphaaGreatDoor.ShowP Go.Proofs.YtomhkemdafiphaaGreatDoor.ShowB Go.Proofs.YtomhkemdafiphaaGreatDoor.ShowW
open Go.Proofs.YtomhkemdafiphaaGreatDoor.Ar (Thing IsAr new_calls alloc_calls rd_new tot kindA lenA getA)
open Go.Proofs.YtomhkemdafiphaaGreatDoor.Own (IsRow Src min_nat)
open Go.Proofs.YtomhkemdafiphaaGreatDoor.ReadM (intOf6)
open Go.Lib (itoa byteCells)
attribute [local go_sem] Go.Proofs.YtomhkemdafiphaaGreatDoor.Own.max2_int Go.Proofs.YtomhkemdafiphaaGreatDoor.Own.min2_int Go.Proofs.YtomhkemdafiphaaGreatDoor.Own.max_two Go.Proofs.YtomhkemdafiphaaGreatDoor.Own.min_two
/-- numbers modulo k -/
def mods (k : Int) (xs : List Int) : List Int := xs.map (·.tmod k)
theorem mods_bd {k : Int} (h0 : 0 < k) (h1 : k ≤ 1000) (xs : List Int) : ∀ u ∈ mods k xs, -999 ≤ u ∧ u ≤ 999 := fun u hu => by
  obtain ⟨x, _, rfl⟩ := List.mem_map.1 hu
  have h2 := Int.tmod_lt_of_pos x h0
  have h3 := Int.lt_tmod_of_pos x h0
  omega
/-- what is wanted so far -/
def wantJ (vs : List Int) (j : Nat) : List UInt8 := if j < vs.length then tailT (vs.drop (vs.length - j)) ++ [41] else bodyT (vs.drop (vs.length - j))
theorem wantJ_0 (vs : List Int) : wantJ vs 0 = [41] := by
  unfold wantJ
  rw [Nat.sub_zero, List.drop_length]
  split <;> rfl
theorem drop_at {vs : List Int} {j : Nat} (h : j < vs.length) : ∃ v, vs[vs.length - 1 - j]? = some v ∧ vs.drop (vs.length - (j + 1)) = v :: vs.drop (vs.length - j) := by
  refine ⟨_, List.getElem?_eq_getElem (by omega), ?_⟩
  rw [show vs.length - (j + 1) = vs.length - 1 - j by omega, List.drop_eq_getElem_cons (by omega), show vs.length - 1 - j + 1 = vs.length - j by omega]
theorem wantJ_more {vs : List Int} {j : Nat} (h : j + 1 < vs.length) {v : Int} (hv : vs.drop (vs.length - (j + 1)) = v :: vs.drop (vs.length - j)) : wantJ vs (j + 1) = 32 :: (itoa v ++ wantJ vs j) := by
  unfold wantJ
  rw [if_pos h, if_pos (by omega), hv, tail_cons]
  simp
theorem wantJ_last {vs : List Int} {j : Nat} (h : j + 1 = vs.length) {v : Int} (hv : vs.drop (vs.length - (j + 1)) = v :: vs.drop (vs.length - j)) : wantJ vs (j + 1) = itoa v ++ wantJ vs j := by
  unfold wantJ
  rw [if_neg (by omega), if_pos (by omega), hv]
  rfl
theorem wantJ_all (vs : List Int) : 40 :: wantJ vs vs.length = listT vs := by
  unfold wantJ
  rw [if_neg (by omega), Nat.sub_self]
  rfl
theorem wantJ_len {vs : List Int} (h : ∀ u ∈ vs, -999 ≤ u ∧ u ≤ 999) (j : Nat) : (wantJ vs j).length ≤ 5 * vs.length + 1 := by
  have hd : ∀ u ∈ vs.drop (vs.length - j), -999 ≤ u ∧ u ≤ 999 := fun u hu => h u (List.mem_of_mem_drop hu)
  have hl : (vs.drop (vs.length - j)).length ≤ vs.length := by rw [List.length_drop]; omega
  unfold wantJ
  split
  · have := tail_len hd
    rw [List.length_append, List.length_singleton]; omega
  · have := body_len hd
    omega
set_option maxHeartbeats 8000000 in
set_option maxRecDepth 100000 in
theorem shortw (A : Option Addr) (len cap : Nat) (zs : List Int) (w : World) (hV : VarsS w) (hz : IsRow .i64 w A len cap zs) :
    Calls Tryz.prog 6 #[.slice A len cap] w fun e w' => e = .returned (.bool true) ∧ Chg [] w w' := by
  have HV := Lib.hid hV
  obtain ⟨m, hmin, m1, m2, _⟩ := min_nat len 100 100 rfl
  have hlc : len ≤ cap := by rcases hz with ⟨_, rfl, rfl, _⟩ | ⟨_, _, h, _⟩ <;> omega
  have hlz : (zs.take m).length = m := by
    rcases hz with ⟨_, rfl, rfl, rfl⟩ | ⟨_, _, h, _, h2, _⟩
    · simp; omega
    · simp; omega
  have HSRC := Lib.hid (hz.src m m1 cap)
  generalize zs.take m = xs at *
  have HLZ := Lib.hid hlz
  have bm : (m : Int) ≤ 100 := by omega
  clear hz hV hlz
  obtain ⟨vs, hvs⟩ : ∃ vs, vs = mods 100 xs := ⟨_, rfl⟩
  have HVS := Lib.hid hvs
  have HVL := Lib.hid (show vs.length = m by rw [hvs]; unfold mods; rw [List.length_map]; exact HLZ.out)
  have HBD := Lib.hid (show ∀ u ∈ vs, -999 ≤ u ∧ u ≤ 999 by rw [hvs]; exact mods_bd (by decide) (by decide) xs)
  clear hvs
  go_enter Tryz.func6, Tryz.ntmps6
  go_wp2_with fail
  refine (shown_calls _ HV.out).mono ?_
  rintro e w2 ⟨rfl, k2⟩
  have K2 := Lib.hid k2
  clear k2
  go_wp2_with fail
  refine (new_calls 400 _ (by decide) (by decide)).mono ?_
  rintro e w3 ⟨g, bw, bh, rfl, ha, hc, l1, l2, l3⟩
  have HGG := Lib.hid (show w2.heap.size ≤ g ∧ w2.heap.size ≤ bw ∧ w2.heap.size ≤ bh from ⟨l1, l2, l3⟩)
  have K3 := Lib.hid (K2.out.sub hc)
  have HA3 := Lib.hid ha
  clear ha hc l1 l2 l3
  go_wp2_with fail
  go_loopw [32, 7, 8] (fun i p t wx => ∃ j : Nat, i = .int .i64 j ∧ j ≤ m ∧ p = .int .u64 (ptrL (vs.drop (m - j))) ∧ t = .string ⟨(wantJ vs j).toArray⟩ ∧ Hid (IsAr wx g bw bh 400 (thL (vs.drop (m - j)))) ∧ Hid (Chg [g, bw, bh] w3 wx)) (fun i _ _ _ => m - (intOf6 i).toNat)
  case atStart =>
    refine ⟨0, rfl, Nat.zero_le _, ?_, ?_, ?_, Lib.hid (Chg.refl _ _)⟩
    · rw [Nat.sub_zero, ← HVL.out, List.drop_length]; rfl
    · rw [wantJ_0]
    · rw [Nat.sub_zero, ← HVL.out, List.drop_length]; exact HA3
  case round =>
    obtain ⟨j, rfl, hj, rfl, rfl, HA, HC⟩ := hrel
    have hvl : vs.length = m := HVL
    by_cases hjn : j < m
    · have e0 : decide ((j : Int) < (m : Int)) = true := decide_eq_true (by omega)
      have e0' : decide (j < m) = true := decide_eq_true hjn
      obtain ⟨v, hv, hdr⟩ := drop_at (vs := vs) (j := j) (by omega)
      rw [hvl] at hv hdr
      obtain ⟨x, hx, rfl⟩ : ∃ x, xs[m - 1 - j]? = some x ∧ x.tmod 100 = v := by
        have h := hv
        rw [show vs = mods 100 xs from HVS] at h
        unfold mods at h
        rw [List.getElem?_map] at h
        cases h2 : xs[m - 1 - j]? with
        | none => rw [h2] at h; cases h
        | some x => rw [h2] at h; exact ⟨x, rfl, by injection h⟩
      have hbv := HBD.out _ (List.mem_of_getElem? hv)
      have kw : Chg [] w wr := K3.out.trans HC.out (fun b hb => by
        have h3 := HGG.out
        have h4 := K2.out.size
        simp only [List.mem_cons, List.not_mem_nil, or_false] at hb
        rcases hb with rfl | rfl | rfl <;> exact .inr (by omega))
      obtain ⟨b, o, rfl, hbl, hcell⟩ := (HSRC.out.grow kw).pl (by omega) (by decide)
      have hq : wr.cell? ⟨b, o + (m - 1 - j), none⟩ = some (.int .i64 x) := hcell _ _ (by simp [Heap.nums, hx])
      have hul : (vs.drop (m - j)).length = j := by rw [List.length_drop, hvl]; omega
      have hwl := wantJ_len HBD.out j
      rw [hvl] at hwl
      have hw1 : j + 1 < m → wantJ vs (j + 1) = 32 :: (itoa (x.tmod 100) ++ wantJ vs j) := fun h => wantJ_more (by omega) (by rw [hvl]; exact hdr)
      have hw2 : j + 1 = m → wantJ vs (j + 1) = itoa (x.tmod 100) ++ wantJ vs j := fun h => wantJ_last (by omega) (by rw [hvl]; exact hdr)
      have HW1 := Lib.hid hw1
      have HW2 := Lib.hid hw2
      have HDR := Lib.hid hdr
      have HUL := Lib.hid hul
      have HBV := Lib.hid hbv
      have ei : (m : Int) - 1 - (j : Int) = ((m - 1 - j : Nat) : Int) := by omega
      generalize m - 1 - j = k at *
      have bk : (k : Int) < (m : Int) := by omega
      have DC := Lib.hid (fun w => digits_calls (x.tmod 100) (by omega) (by omega) w)
      have hil := itoa_3 hbv
      generalize wantJ vs j = t0 at *
      clear hdr hul hv hx hw1 hw2 hcell hbl kw hbv
      go_wp2_with fail
      have HA2 := Lib.hid (HA.out.sub ((Chg.refl [] wr).alloc (.cells #[.int .u64 (wV (x.tmod 100)), .int .u64 (ptrL (vs.drop (m - j)))] 41)))
      refine (alloc_calls HA2.out 1 _ [wV (x.tmod 100), ptrL (vs.drop (m - j))] (rd_new _ _ _ rfl HA.out.lt _ _ _ rfl rfl) (by decide) (by decide) (by show (2 : Nat) ≤ 255; decide) (by rw [tot_thL, show (vs.drop (m - j)).length = j from HUL]; show 3 * j + 2 < 400; omega)).mono ?_
      rintro e w5 ⟨rfl, ha5, hc5⟩
      have hp5 : (tot (thL (vs.drop (m - j))) : Int) * 8 + 1 = ptrL (vs.drop (m - (j + 1))) := by
        rw [tot_thL, show (vs.drop (m - j)).length = j from HUL, show vs.drop (m - (j + 1)) = _ from HDR]
        simp only [ptrL]
        rw [show (vs.drop (m - j)).length = j from HUL]; omega
      rw [hp5]
      have hth : thL (vs.drop (m - (j + 1))) = thL (vs.drop (m - j)) ++ [(1, [wV (x.tmod 100), ptrL (vs.drop (m - j))])] := by
        rw [show vs.drop (m - (j + 1)) = _ from HDR]; rfl
      rw [← hth] at ha5
      have HA5 := Lib.hid ha5
      have HC5 := Lib.hid ((HC.out.alloc _).trans hc5 (fun b hb => .inl hb))
      clear ha5 hc5 hth hp5 HA2
      generalize hp6 : ptrL (vs.drop (m - (j + 1))) = p5 at *
      have HP5 := Lib.hid hp6
      clear hp6
      go_wp2_with fail
      refine (DC.out w5).mono ?_
      rintro e w6 ⟨rfl, k6⟩
      have HA6 := Lib.hid (HA5.out.sub k6)
      have HC6 := Lib.hid (HC5.out.sub k6)
      clear k6 HA5 HC5
      generalize hdx : itoa (x.tmod 100) = dx at *
      have n1 : dx.length + t0.length ≤ 9223372036854775807 := by omega
      have n2 : 1 + (dx.length + t0.length) ≤ 9223372036854775807 := by omega
      clear hil hwl hdx
      by_cases hl : j + 1 < m
      · have f0 : decide ((j : Int) + 1 < (m : Int)) = true := decide_eq_true (by omega)
        have f0' : decide (j + 1 < m) = true := decide_eq_true hl
        have hw := HW1.out hl
        have HW := Lib.hid hw
        clear hw HW1 HW2
        go_wp2_with fail
        go_roundw
        case rel => exact ⟨j + 1, by simp, by omega, by rw [HP5.out], by rw [HW.out]; simp only [cat_bytes]; rw [← cat_bytes [32]]; rfl, HA6, HC6⟩
        case measure => simp [intOf6]; omega
      · have f0 : decide ((j : Int) + 1 < (m : Int)) = false := decide_eq_false (by omega)
        have f0' : decide (j + 1 < m) = false := decide_eq_false hl
        have hw := HW2.out (by omega)
        have HW := Lib.hid hw
        clear hw HW1 HW2
        go_wp2_with fail
        go_roundw
        case rel => exact ⟨j + 1, by simp, by omega, by rw [HP5.out], by rw [HW.out, cat_bytes], HA6, HC6⟩
        case measure => simp [intOf6]; omega
    · have e0 : decide ((j : Int) < (m : Int)) = false := decide_eq_false (by omega)
      have e0' : decide (j < m) = false := decide_eq_false hjn
      have hjm : j = m := by omega
      subst hjm
      rw [Nat.sub_self, List.drop_zero] at HA ⊢
      have KK : Chg [] w wr := K3.out.trans HC.out (fun b hb => by
        have h3 := HGG.out
        have h4 := K2.out.size
        simp only [List.mem_cons, List.not_mem_nil, or_false] at hb
        rcases hb with rfl | rfl | rfl <;> exact .inr (by omega))
      have HKK := Lib.hid KK
      have HE := Lib.hid (show Env wr wr.heap.size (.pointer (some ⟨g, 0, none⟩)) (.pointer none) (thL vs) [] from
        ⟨⟨g, bw, bh, 400, rfl, HA.out⟩, .inl ⟨rfl, rfl⟩, HV.out.t.chg KK, Nat.le_refl _, th_bd (by omega), fun s hs => by cases hs⟩)
      have hpb := ptr_bd (r := vs) (by omega)
      have WC := Lib.hid (word_shown HE.out (ptrL vs) hpb.1 hpb.2)
      rw [word_list [] vs rfl (by omega) HBD.out] at WC
      have hwa := wantJ_all vs
      rw [hvl] at hwa
      have hwl := wantJ_len HBD.out j
      have hll := congrArg List.length hwa
      rw [List.length_cons] at hll
      generalize ptrL vs = pv at *
      generalize wantJ vs j = t0 at *
      have hcb : (⟨#[40]⟩ : ByteArray) ++ ⟨t0.toArray⟩ = ⟨(listT vs).toArray⟩ := by rw [← hwa]; exact cat_bytes [40] t0
      have HCB := Lib.hid hcb
      generalize listT vs = lt at *
      have n1 : 1 + t0.length ≤ 9223372036854775807 := by omega
      clear hcb hwa hwl hpb KK HA HE hj hjn
      go_upto_region 19 with fail
      rw [HCB.out]
      go_wp2_with fail
      refine WC.out.mono ?_
      rintro e w6 ⟨rfl, k6⟩
      have K6 := Lib.hid (HKK.out.sub k6)
      clear k6 WC
      by_cases hb : lt.length ≤ 120
      · have f0 : decide ((lt.length : Int) ≤ 120) = true := decide_eq_true (by omega)
        have f0' : decide (lt.length ≤ 120) = true := decide_eq_true hb
        rw [cut_le hb]
        go_wp2_with fail
        go_ret
        exact ⟨by simp, K6.out⟩
      · have f0 : decide ((lt.length : Int) ≤ 120) = false := decide_eq_false (by omega)
        have f0' : decide (lt.length ≤ 120) = false := decide_eq_false hb
        have hcl : cutS lt = lt.take 117 ++ [46, 46, 46] := by unfold cutS; rw [if_pos (by omega)]
        have hcl2 : (cutS lt).length = 120 := by rw [hcl, List.length_append, List.length_take]; simp; omega
        have EQ : ((cutS lt) == ((⟨lt.toArray⟩ : ByteArray).extract 0 117 ++ ⟨#[46, 46, 46]⟩).toList) = true := eq_bytes (by rw [cut_bytes, hcl])
        generalize cutS lt = cl at *
        have f1 : ((cl.length : Int) == 120) = true := by rw [hcl2]; rfl
        have p0 : (117 : Int) ≤ (lt.length : Int) := by omega
        clear hcl hb
        go_wp2_with fail
        go_ret
        exact ⟨by simp, K6.out⟩
theorem walkShowShort (A : Option Addr) (len cap : Nat) (zs : List Int) (w : World) (hL : laidMetH Tryz.prog Rows.showShortRow.laid w) (hz : IsRow .i64 w A len cap zs) (_hy : len * 8 ≤ 140737488351232) :
    Calls Tryz.prog 6 #[.slice A len cap] w fun e w' => e = .returned (.bool true) ∧ Below w.heap.size w w' :=
  (shortw A len cap zs w (varsS_of hL (by kernel_rfl) (by kernel_rfl) (by kernel_rfl)) hz).mono (fun e w' h => ⟨h.1, h.2.below⟩)
end Go.Proofs.YtomhkemdafiphaaGreatDoor.ShowC

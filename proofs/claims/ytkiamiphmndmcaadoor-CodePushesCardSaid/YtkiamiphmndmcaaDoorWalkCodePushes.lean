/- The walk of CodePushes: for any two numbers the law answers true; its premises are what the row gives of its arguments. -/
import Derived.Test.YtkiamiphmndmcaaDoorPushesP
import Derived.Test.YtkiamiphmndmcaaDoorHeap
import Derived.Test.YtkiamiphmndmcaaDoorRowsApp
import Derived.Lib.Hide
namespace Go.Proofs.YtkiamiphmndmcaaDoor.PCodes
open Go Go.RowKit Go.Proofs.YtkiamiphmndmcaaDoor.Heap Go.Proofs.YtkiamiphmndmcaaDoorW.PrintWords Go.Proofs.YtkiamiphmndmcaaDoorW.PrintMore
theorem shown_yes : eddywheellaw11_shown.f 5 = some true := by decide +kernel
theorem infoIns : (Tryd.prog.info? 38).map (fun i => (i.zero, i.size, i.bytes)) = some (some (.agg #[(.int .u8 0), (.int .i64 0), (.int .i64 0), (.int .u64 0)]), 4, 32) := by kernel_rfl
def insC (i : S38) : List Value := [.int .u8 i.f0, .int .i64 i.f1, .int .i64 i.f2, .int .u64 i.f3]
def flatI (L : List (S38)) : List Value := L.flatMap insC
theorem flatI_app (L M : List (S38)) : flatI (L ++ M) = flatI L ++ flatI M := by simp [flatI]
theorem flatI_one (L : List (S38)) : ∀ u ∈ flatI L, u.oneCell' = true := by
  intro u hu
  obtain ⟨i, _, hi⟩ := List.mem_flatMap.1 hu
  simp only [insC, List.mem_cons, List.not_mem_nil, or_false] at hi
  rcases hi with rfl | rfl | rfl | rfl <;> rfl
theorem flatI_reps (W : World) : ∀ L : List (S38), Reps (k38.K W) 4 L (flatI L)
  | [] => Reps.none _ _
  | i :: r => Reps.c4 (k38_mk W i) (flatI_reps W r)
theorem flat_C {W : World} {base : Nat} {B : Option Addr} {n c : Nat} {L : List (S38)} (h : W.ownsRow base 38 4 (.slice B n c) n (flatI L)) (hn : n = L.length) : n ≤ c ∧ Kd.C k38 W B n L := by
  obtain ⟨A, c', h1, h2, h3⟩ := Lib2.own_C k38 (xs := L) h hn (flatI_reps W L)
  simp only [Value.slice.injEq] at h1
  obtain ⟨rfl, _, rfl⟩ := h1
  exact ⟨h2, h3⟩
theorem ob_base {w : World} {base : Nat} {e : TypeId} {size n : Nat} {v : Value} {xs : List Value} (h : w.ownsRow base e size v n xs) : ∀ b, b ∈ Own.ob v → base ≤ b := fun b hb => own_base h b (Own.mem_ob.1 hb)
theorem check_one {W : World} {B : Option Addr} {N c : Nat} {L : List (S38)} {r1 r2 r3 : Int} (hC : Kd.C k38 W B N L) (hc : N ≤ c) (hN : N = L.length) (h : code_Check.f [⟨0, L⟩] = some (r1, r2, r3)) :
    Calls Tryd.prog 10 #[.slice (some ⟨W.heap.size, 0, none⟩) 1 1] (W.alloc (.cells #[.int .i64 0, .slice B N c] 31)) fun e w' => e = .returned (.tuple #[.int .i64 r1, .int .i64 r2, .int .i64 r3]) ∧ Below W.heap.size W w' := by
  subst hN
  refine (code_Check.calls (some ⟨W.heap.size, 0, none⟩) 1 [⟨0, L⟩] r1 r2 r3 _ (Lib2.C_blk k31 (xs := [(⟨0, L⟩ : S31)]) (Heap.blk_new rfl) (Reps.c2 (k31_mk _ ⟨0, L⟩ hc (Kd.C_alloc hC _)) (Reps.none _ _)) (by simp)) (by simp) h).mono ?_
  rintro e w' ⟨he, hb⟩
  exact ⟨he, below_then (below_alloc (Below.refl _ W) _) (by simp) hb⟩
theorem depth_one {W : World} {B : Option Addr} {N c : Nat} {L : List (S38)} {d : List Int} {ok : Bool} {M : Nat} (hC : Kd.C k38 W B N L) (hc : N ≤ c) (hN : N = L.length) (h : code_Depth.f 0 L = some (d, ok)) (hM : d.length = M) :
    Calls Tryd.prog 11 #[.agg #[.int .i64 0, .slice B N c]] W fun e w' => ∃ A7 c7, e = .returned (.tuple #[.slice A7 M c7, .bool ok]) ∧ M ≤ c7 ∧ Kd.C (Kd.int .i64) w' A7 M d ∧ Below W.heap.size W w' := by
  subst hN hM
  refine (code_Depth.calls 0 B c L d ok W hC hc h).mono ?_
  rintro e w' ⟨v7, rfl, hR, hb⟩
  obtain ⟨A7, c7, rfl, h1, h2⟩ := Kd.R_reads hR
  exact ⟨A7, c7, rfl, h1, h2, hb⟩
set_option maxRecDepth 100000 in
set_option maxHeartbeats 8000000 in
theorem walkPushes (n m : Int) (w : World) (h8 : (Lit.int .u8 n).wf = true) (h9 : (Lit.int .u8 m).wf = true) :
    Calls Tryd.prog 6 #[.int .u8 n, .int .u8 m] w fun e w' => e = .returned (.bool true) ∧ Below w.heap.size w w' := by
  have e8 : IntKind.u8.min = 0 ∧ IntKind.u8.max = 255 := by decide
  simp only [Lit.wf, e8.1, e8.2, Bool.and_eq_true, decide_eq_true_eq] at h8 h9
  obtain ⟨n0, n8⟩ := h8
  obtain ⟨m0, m8⟩ := h9
  obtain ⟨p, hp⟩ : ∃ p : Nat, n % 41 = p := ⟨(n % 41).toNat, by omega⟩
  obtain ⟨q, hq⟩ : ∃ q : Int, m % 41 = q := ⟨_, rfl⟩
  have p8 : p ≤ 40 := by omega
  have q0 : 0 ≤ q := by omega
  have q8 : q ≤ 40 := by omega
  have TD := Lib.hid (tail_depth p q q0 q8 p8)
  have TC := Lib.hid (tail_check p q q0 q8 p8)
  have CC := Lib.hid (call_check p q q0 q8 p8)
  have MC := Lib.hid (more_check p q q0 q8 p8)
  clear e8
  go_enter Tryd.func6, Tryd.ntmps6
  go_wp2_with fail
  refine (eddywheellaw11_shown.calls 5 true _ shown_yes).mono ?_
  rintro e w1 ⟨rfl, hb1⟩
  have HB1 := Lib.hid hb1
  clear hb1
  go_wp2_with fail
  try rw [hp]
  try rw [hq]
  clear hp hq
  go_loopw [8, 31] (fun v i wx => ∃ k : Nat, i = .int .i64 k ∧ k ≤ p ∧ Hid (wx.ownsRow w.heap.size 38 4 v (2 * k) (flatI (pPre k))) ∧ Hid (Below w.heap.size w wx)) (fun _ i _ => p - (intOf i).toNat)
  case atStart => exact ⟨0, rfl, Nat.zero_le _, Lib.hid (own_nil _ _ _ _), HB1⟩
  case round =>
    obtain ⟨k, rfl, hk, HR, HB⟩ := hrel
    by_cases hlt : k < p
    · have bk0 : (0 : Int) ≤ (k : Int) := Int.natCast_nonneg _
      have bk1 : (k : Int) < (p : Int) := by omega
      go_wp2_with (at_builtin; refine Own.app (W := wr.alloc (.cells (flatI [iW8, iP]).toArray 38)) rfl (.tmp 33) (.tmp 36) 29 rfl w.heap.size 38 (.agg #[(.int .u8 0), (.int .i64 0), (.int .i64 0), (.int .u64 0)]) 4 32 Tryd.underlying29 infoIns rfl (by decide) (by decide) _ (2 * k) (flatI (pPre k)) rfl (Own.own_keep HR.out ((Heap.Chg.refl [] wr).alloc _) (by simp)) _ 2 (flatI [iW8, iP]) rfl (Own.src_new _ _ _ _ _ _ rfl rfl) (flatI_one _) (below_alloc HB.out _).size (by omega) ?_; intro B c w3 ho hc _; have HR3 : Hid (w3.ownsRow w.heap.size 38 4 (.slice B (2 * k + 2) c) (2 * (k + 1)) (flatI (pPre (k + 1)))) := Lib.hid (by rw [pPre, flatI_app]; exact ho); have HB3 := Lib.hid (((Heap.Chg.of_below (F := []) HB.out).alloc _).trans hc (fun b hb => .inr (ob_base HR.out b hb))).below; clear ho hc)
      go_roundw
      case rel => exact ⟨k + 1, by go_num, by omega, HR3, HB3⟩
      case measure => simp [intOf]; omega
    · obtain rfl : k = p := by omega
      clear hlt hk HB1
      have hs8 := HB.out.size
      go_upto_region 9 with (at_builtin; refine Own.app (W := wr.alloc (.cells (flatI [iW16]).toArray 38)) rfl (.tmp 39) (.tmp 41) 29 rfl w.heap.size 38 (.agg #[(.int .u8 0), (.int .i64 0), (.int .i64 0), (.int .u64 0)]) 4 32 Tryd.underlying29 infoIns rfl (by decide) (by decide) _ (2 * k) (flatI (pPre k)) rfl (Own.own_keep HR.out ((Heap.Chg.refl [] wr).alloc _) (by simp)) _ 1 (flatI [iW16]) rfl (Own.src_new _ _ _ _ _ _ rfl rfl) (flatI_one _) (by simp; omega) (by omega) ?_; intro B8 c8 w8 ho hc _; have HL8 : Hid (w8.ownsRow w.heap.size 38 4 (.slice B8 (2 * k + 1) c8) (2 * k + 1) (flatI (pPre k ++ [iW16]))) := Lib.hid (by rw [flatI_app]; exact ho); have HB8 := Lib.hid (((Heap.Chg.of_below (F := []) HB.out).alloc _).trans hc (fun b hb => .inr (ob_base HR.out b hb))).below; clear ho hc)
      clear HR HB hs8
      have hs8 := HB8.out.size
      have _hs9 := HB8.out.size
      go_upto_region 10 with first | (at_builtin; refine Own.app_lit (W := w8) rfl (.tmp 43) (.tmp 44) 29 rfl 38 (.agg #[(.int .u8 0), (.int .i64 0), (.int .i64 0), (.int .u64 0)]) 4 32 Tryd.underlying29 infoIns rfl (by decide) (by decide) rfl (.slice B8 (2 * k + 1) c8) (2 * k + 1) (flatI (pPre k ++ [iW16])) rfl (Own.Src.own HL8.out) (flatI_one _) (by omega) ?_; intro Ba ca wa hoa hca; have HOA := Lib.hid hoa; have hsa := hca.size; have HCA := Lib.hid hca; clear hoa hca) | (at_builtin; refine Own.app (W := wa.alloc (.cells (flatI [iT q]).toArray 38)) rfl (.tmp 45) (.tmp 48) 29 rfl w8.heap.size 38 (.agg #[(.int .u8 0), (.int .i64 0), (.int .i64 0), (.int .u64 0)]) 4 32 Tryd.underlying29 infoIns rfl (by decide) (by decide) _ (2 * k + 1) (flatI (pPre k ++ [iW16])) rfl (Own.own_keep HOA.out ((Heap.Chg.refl [] wa).alloc _) (by simp)) _ 1 (flatI [iT q]) rfl (Own.src_new _ _ _ _ _ _ rfl rfl) (flatI_one _) (by simp; omega) (by omega) ?_; intro B9 c9 w9 ho hc _; have HO9 : Hid (w9.ownsRow w8.heap.size 38 4 (.slice B9 (2 * k + 1 + 1) c9) (2 * k + 1 + 1) (flatI (tailL k q))) := Lib.hid (by rw [show (tailL k q) = (pPre k ++ [iW16]) ++ [iT q] by simp [tailL], flatI_app]; exact ho); have HC9 := Lib.hid ((HCA.out.alloc _).trans hc (fun b hb => .inr (ob_base HOA.out b hb))); clear ho hc)
      clear HOA HCA hsa
      have HL9 := Lib.hid (Own.own_keep HL8.out HC9.out (by simp))
      have _hs10 := HB8.out.size
      go_upto_region 11 with first | (at_builtin; refine Own.app_lit (W := w9) rfl (.tmp 50) (.tmp 51) 29 rfl 38 (.agg #[(.int .u8 0), (.int .i64 0), (.int .i64 0), (.int .u64 0)]) 4 32 Tryd.underlying29 infoIns rfl (by decide) (by decide) rfl (.slice B8 (2 * k + 1) c8) (2 * k + 1) (flatI (pPre k ++ [iW16])) rfl (Own.Src.own HL9.out) (flatI_one _) (by omega) ?_; intro Ba ca wa hoa hca; have HOA := Lib.hid hoa; have hsa := hca.size; have HCA := Lib.hid hca; clear hoa hca) | (at_builtin; refine Own.app (W := wa.alloc (.cells (flatI [iC q, iR]).toArray 38)) rfl (.tmp 52) (.tmp 56) 29 rfl w9.heap.size 38 (.agg #[(.int .u8 0), (.int .i64 0), (.int .i64 0), (.int .u64 0)]) 4 32 Tryd.underlying29 infoIns rfl (by decide) (by decide) _ (2 * k + 1) (flatI (pPre k ++ [iW16])) rfl (Own.own_keep HOA.out ((Heap.Chg.refl [] wa).alloc _) (by simp)) _ 2 (flatI [iC q, iR]) rfl (Own.src_new _ _ _ _ _ _ rfl rfl) (flatI_one _) (by simp; omega) (by omega) ?_; intro B10 c10 w10 ho hc _; have HO10 : Hid (w10.ownsRow w9.heap.size 38 4 (.slice B10 (2 * k + 1 + 2) c10) (2 * k + 1 + 2) (flatI (callL k q))) := Lib.hid (by rw [show (callL k q) = (pPre k ++ [iW16]) ++ [iC q, iR] by simp [callL], flatI_app]; exact ho); have HC10 := Lib.hid ((HCA.out.alloc _).trans hc (fun b hb => .inr (ob_base HOA.out b hb))); clear ho hc)
      clear HOA HCA hsa
      have HT10 := Lib.hid (Own.own_keep HO9.out HC10.out (by simp))
      have _hs11 := HB8.out.size
      go_upto_region 12 with first | (at_builtin; refine Own.app_lit (W := w10) rfl (.tmp 58) (.tmp 59) 29 rfl 38 (.agg #[(.int .u8 0), (.int .i64 0), (.int .i64 0), (.int .u64 0)]) 4 32 Tryd.underlying29 infoIns rfl (by decide) (by decide) rfl (.slice B9 (2 * k + 1 + 1) c9) (2 * k + 1 + 1) (flatI (tailL k q)) rfl (Own.Src.own HT10.out) (flatI_one _) (by omega) ?_; intro Ba ca wa hoa hca; have HOA := Lib.hid hoa; have hsa := hca.size; have HCA := Lib.hid hca; clear hoa hca) | (at_builtin; refine Own.app (W := wa.alloc (.cells (flatI [iR]).toArray 38)) rfl (.tmp 60) (.tmp 62) 29 rfl w10.heap.size 38 (.agg #[(.int .u8 0), (.int .i64 0), (.int .i64 0), (.int .u64 0)]) 4 32 Tryd.underlying29 infoIns rfl (by decide) (by decide) _ (2 * k + 1 + 1) (flatI (tailL k q)) rfl (Own.own_keep HOA.out ((Heap.Chg.refl [] wa).alloc _) (by simp)) _ 1 (flatI [iR]) rfl (Own.src_new _ _ _ _ _ _ rfl rfl) (flatI_one _) (by simp; omega) (by omega) ?_; intro B11 c11 w11 ho hc _; have HO11 : Hid (w11.ownsRow w10.heap.size 38 4 (.slice B11 (2 * k + 1 + 1 + 1) c11) (2 * k + 1 + 1 + 1) (flatI (moreL k q))) := Lib.hid (by rw [show (moreL k q) = (tailL k q) ++ [iR] by simp [moreL, tailL], flatI_app]; exact ho); have HC11 := Lib.hid ((HCA.out.alloc _).trans hc (fun b hb => .inr (ob_base HOA.out b hb))); clear ho hc)
      clear HOA HCA hsa
      have k9 := HC9.out
      have k10 := k9.same HC10.out
      have k11 := k10.same HC11.out
      have HB11 := Lib.hid (((Heap.Chg.of_below (F := []) HB8.out).same k11)).below
      have HTa := flat_C (Own.own_keep HO9.out (HC10.out.same HC11.out) (by simp)) (by simp [tailL, pPre_len])
      have HCa := flat_C (Own.own_keep HO10.out HC11.out (by simp)) (by simp [callL, pPre_len])
      have HMa := flat_C HO11.out (by simp [moreL, pPre_len])
      obtain ⟨la, ca1⟩ := HTa
      obtain ⟨lc, ca2⟩ := HCa
      obtain ⟨lm, ca3⟩ := HMa
      have ea : 2 * k + 1 + 1 = (tailL k q).length := by simp [tailL, pPre_len]
      have ec : 2 * k + 1 + 2 = (callL k q).length := by simp [callL, pPre_len]
      have em : 2 * k + 1 + 1 + 1 = (moreL k q).length := by simp [moreL, pPre_len]
      have EA := Lib.hid ea
      have EC := Lib.hid ec
      have EM := Lib.hid em
      have CA := Lib.hid ca1
      have CB := Lib.hid ca2
      have CM := Lib.hid ca3
      have bk0 : (0 : Int) ≤ (k : Int) := Int.natCast_nonneg _
      clear ea ec em ca1 ca2 ca3 k9 k10 k11 HL8 HB8 HO9 HC9 HL9 HO10 HC10 HT10 HO11 HC11 hs8 _hs9 _hs10 _hs11
      rcases Int.lt_trichotomy (k : Int) q with hkq | hkq | hkq
      · have hTD := TD.out
        have hTC := TC.out
        have hCC := CC.out
        rw [if_pos hkq] at hTD
        rw [if_neg (by omega), if_neg (by omega)] at hTC hCC
        have XTD := Lib.hid hTD
        have XTC := Lib.hid hTC
        have XCC := Lib.hid hCC
        have t1 : decide (q ≤ (k : Int)) = false := by simp; omega
        have t2 : ((k : Int) == q) = false := by simp; omega
        have t3 : decide (q > (k : Int)) = true := by simp; omega
        clear hTD hTC hCC TD TC CC hkq
        go_wp2_with fail
        refine (check_one CA.out la EA.out XTC.out).mono ?_
        rintro e wA ⟨rfl, hbA⟩
        have HBA := Lib.hid hbA
        clear hbA
        go_wp2_with fail
        refine (check_one (Kd.C_below CB.out HBA.out) lc EC.out XCC.out).mono ?_
        rintro e wB ⟨rfl, hbB⟩
        have HBB := Lib.hid (below_then HBA.out HBA.out.size hbB)
        clear hbB
        go_wp2_with fail
        refine (check_one (Kd.C_below CM.out HBB.out) lm EM.out MC.out).mono ?_
        rintro e wC ⟨rfl, hbC⟩
        have HBC := Lib.hid (below_then HBB.out HBB.out.size hbC)
        clear hbC
        go_wp2_with fail
        refine (depth_one (Kd.C_below CA.out HBC.out) la EA.out XTD.out (M := 0) rfl).mono ?_
        rintro e wD ⟨A7, c7, rfl, _, _, hbD⟩
        have HBD := Lib.hid (below_then HB11.out HB11.out.size (below_then HBC.out HBC.out.size hbD))
        clear hbD
        go_wp2_with fail
        go_ret
        exact ⟨rfl, HBD.out⟩
      · subst hkq
        have hTD := TD.out
        have hTC := TC.out
        have hCC := CC.out
        rw [if_neg (by omega)] at hTD
        rw [if_neg (by omega), if_pos rfl] at hTC hCC
        have XTD := Lib.hid hTD
        have XTC := Lib.hid hTC
        have XCC := Lib.hid hCC
        have t1 : decide ((k : Int) ≤ (k : Int)) = true := by simp
        have t2 : ((k : Int) == (k : Int)) = true := by simp
        clear hTD hTC hCC TD TC CC
        go_wp2_with fail
        refine (check_one CA.out la EA.out XTC.out).mono ?_
        rintro e wA ⟨rfl, hbA⟩
        have HBA := Lib.hid hbA
        clear hbA
        go_wp2_with fail
        refine (check_one (Kd.C_below CB.out HBA.out) lc EC.out XCC.out).mono ?_
        rintro e wB ⟨rfl, hbB⟩
        have HBB := Lib.hid (below_then HBA.out HBA.out.size hbB)
        clear hbB
        go_wp2_with fail
        refine (check_one (Kd.C_below CM.out HBB.out) lm EM.out MC.out).mono ?_
        rintro e wC ⟨rfl, hbC⟩
        have HBC := Lib.hid (below_then HBB.out HBB.out.size hbC)
        clear hbC
        go_wp2_with fail
        refine (depth_one (Kd.C_below CA.out HBC.out) la EA.out XTD.out (M := 2 * k + 2) (by simp [dPre_len])).mono ?_
        rintro e wD ⟨A7, c7, rfl, l7, hC7, hbD⟩
        have HBD := Lib.hid (below_then HB11.out HB11.out.size (below_then HBC.out HBC.out.size hbD))
        obtain ⟨ad, hA, hc⟩ := Kd.at_int hC7 (2 * (k : Int) + 2 - 1) (by omega) (by omega)
        cases hA
        have hix : (2 * (k : Int) + 2 - 1).toNat = 2 * k + 1 := by omega
        have hv : rd (dPre k ++ [(k : Int), (k : Int)]) (2 * (k : Int) + 2 - 1) = k := by
          unfold rd
          rw [hix, List.getD_eq_getElem?_getD, List.getElem?_append_right (by rw [dPre_len]; omega), dPre_len, show 2 * k + 1 - 2 * k = 1 by omega]; rfl
        rw [hv, hix, show ad.add (2 * k + 1) = ⟨ad.block, ad.off + (2 * k + 1), none⟩ by simp [Addr.add]] at hc
        have t7 : ((k : Int) != (k : Int)) = false := by simp
        have bi0 : (0 : Int) ≤ 2 * (k : Int) + 2 - 1 := by omega
        have bi1 : 2 * (k : Int) + 2 - 1 < 2 * (k : Int) + 2 := by omega
        clear hbD hC7 hv
        go_wp2_with fail
        go_ret
        exact ⟨rfl, HBD.out⟩
      · have hkq' : q < (k : Int) := hkq
        have hTD := TD.out
        have hTC := TC.out
        have hCC := CC.out
        rw [if_neg (by omega)] at hTD
        rw [if_pos hkq, if_neg (by omega)] at hTC hCC
        have XTD := Lib.hid hTD
        have XTC := Lib.hid hTC
        have XCC := Lib.hid hCC
        have t1 : decide (q ≤ (k : Int)) = true := by simp; omega
        have t2 : ((k : Int) == q) = false := by simp; omega
        have t3 : decide (q > (k : Int)) = false := by simp; omega
        have t8 : (2 * (k : Int) + 2 == 2 * (k : Int) + 1 + 2 - 1) = true := by rw [beq_iff_eq]; omega
        have t9 : (2 * (k : Int) + 1 == 2 * (k : Int) + 1 + 1 - 1) = true := by rw [beq_iff_eq]; omega
        clear hkq hkq'
        clear hTD hTC hCC TD TC CC
        go_wp2_with fail
        refine (check_one CA.out la EA.out XTC.out).mono ?_
        rintro e wA ⟨rfl, hbA⟩
        have HBA := Lib.hid hbA
        clear hbA
        go_wp2_with fail
        refine (check_one (Kd.C_below CB.out HBA.out) lc EC.out XCC.out).mono ?_
        rintro e wB ⟨rfl, hbB⟩
        have HBB := Lib.hid (below_then HBA.out HBA.out.size hbB)
        clear hbB
        go_wp2_with fail
        refine (check_one (Kd.C_below CM.out HBB.out) lm EM.out MC.out).mono ?_
        rintro e wC ⟨rfl, hbC⟩
        have HBC := Lib.hid (below_then HBB.out HBB.out.size hbC)
        clear hbC
        go_wp2_with fail
        refine (depth_one (Kd.C_below CA.out HBC.out) la EA.out XTD.out (M := 2 * k + 2) (by simp [dPre_len])).mono ?_
        rintro e wD ⟨A7, c7, rfl, l7, hC7, hbD⟩
        have HBD := Lib.hid (below_then HB11.out HB11.out.size (below_then HBC.out HBC.out.size hbD))
        obtain ⟨ad, hA, hc⟩ := Kd.at_int hC7 (2 * (k : Int) + 2 - 1) (by omega) (by omega)
        cases hA
        have hix : (2 * (k : Int) + 2 - 1).toNat = 2 * k + 1 := by omega
        have hv : rd (dPre k ++ [(k : Int), (k : Int)]) (2 * (k : Int) + 2 - 1) = k := by
          unfold rd
          rw [hix, List.getD_eq_getElem?_getD, List.getElem?_append_right (by rw [dPre_len]; omega), dPre_len, show 2 * k + 1 - 2 * k = 1 by omega]; rfl
        rw [hv, hix, show ad.add (2 * k + 1) = ⟨ad.block, ad.off + (2 * k + 1), none⟩ by simp [Addr.add]] at hc
        have t7 : ((k : Int) != (k : Int)) = false := by simp
        have bi0 : (0 : Int) ≤ 2 * (k : Int) + 2 - 1 := by omega
        have bi1 : 2 * (k : Int) + 2 - 1 < 2 * (k : Int) + 2 := by omega
        clear hbD hC7 hv
        go_wp2_with fail
        go_ret
        exact ⟨rfl, HBD.out⟩
end Go.Proofs.YtkiamiphmndmcaaDoor.PCodes

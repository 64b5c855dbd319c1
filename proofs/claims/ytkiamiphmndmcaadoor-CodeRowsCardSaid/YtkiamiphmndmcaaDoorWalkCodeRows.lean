/- The walk of CodeRows: for any blocks the law answers true; its premises are what the row gives of its arguments. -/
import Derived.Test.YtkiamiphmndmcaaDoorRowsP
import Derived.Test.YtkiamiphmndmcaaDoorRd11
import Derived.Test.YtkiamiphmndmcaaDoorHeap
import Derived.Test.YtkiamiphmndmcaaDoorRowsApp
import Derived.Lib.Hide
namespace Go.Proofs.YtkiamiphmndmcaaDoor.PCodes
open Go Go.RowKit Go.Proofs.YtkiamiphmndmcaaDoor.Heap Go.Proofs.YtkiamiphmndmcaaDoorW.PrintWords Go.Proofs.YtkiamiphmndmcaaDoorW.PrintMore
theorem shown_yes : eddywheellaw11_shown.f 5 = some true := by decide +kernel
theorem infoBl : (Tryd.prog.info? 31).map (fun i => (i.zero, i.size, i.bytes)) = some (some (.agg #[(.int .i64 0), (.slice none 0 0)]), 2, 32) := by kernel_rfl
set_option maxRecDepth 100000 in
set_option maxHeartbeats 8000000 in
theorem walkRows (A : Option Addr) (c : Nat) (l : List (S31)) (which : Int) (w : World) (hF : Kd.F k31 w (fun _ => True) A l.length l) (hl : l.length ≤ c) (hw : l.length ≤ maxLen ∧ ∀ b ∈ l, Lib2.blockWf b)
    (h8 : (Lit.int .u8 which).wf = true) :
    Calls Tryd.prog 5 #[.slice A l.length c, .int .u8 which] w fun e w' => e = .returned (.bool true) ∧ Below w.heap.size w w' := by
  obtain ⟨f1, f2, f3⟩ := Lib2.rd_fine hw
  have FO := Lib.hid (fewP_ok l f3)
  have FL := fewP_len l
  have FE := Lib.hid (few_ok l f1 f2)
  have HF := Lib.hid hF
  have e8 : IntKind.u8.min = 0 ∧ IntKind.u8.max = 255 := by decide
  simp only [Lit.wf, e8.1, e8.2, Bool.and_eq_true, decide_eq_true_eq] at h8
  obtain ⟨w0, w8⟩ := h8
  clear hw f1 f2 f3 hF e8
  go_enter Tryd.func5, Tryd.ntmps5
  go_wp2_with fail
  refine (eddywheellaw11_shown.calls 5 true _ shown_yes).mono ?_
  rintro e w1 ⟨rfl, hb1⟩
  have HB1 := Lib.hid hb1
  clear hb1
  go_wp2_with fail
  refine (eddywheellaw11_few.calls (l.length + 1) (fun _ => True) A c l (fewP l) w1 (Kd.V_mk hl (Kd.F_below HF.out HB1.out)) FE.out).mono ?_
  rintro e w2 ⟨v2, rfl, hN2, hb2⟩
  obtain ⟨A3, c3, hv3, hl3, hC3⟩ := Kd.N_reads hN2
  subst hv3
  have HC3 := Lib.hid hC3
  have HN2 := Lib.hid hN2
  have HB2 := Lib.hid (below_then HB1.out HB1.out.size hb2)
  have HS1 := HB1.out.size
  clear hC3 hN2 hb2 FE hl
  generalize fewP l = x at *
  have hck := check_some x (fun b hb => (FO.out b hb).1)
  by_cases hx : x.length = 0
  · rw [if_pos hx] at hck
    have HCK := Lib.hid hck
    have t1 : ((x.length : Int) == 0) = true := by simp [hx]
    clear hck hx
    go_wp2_with fail
    refine (code_Check.calls A3 c3 x 0 0 1 _ HC3.out hl3 HCK.out).mono ?_
    rintro e w4 ⟨rfl, hb4⟩
    have HB4 := Lib.hid (below_then HB2.out HB2.out.size hb4)
    clear hb4
    go_wp2_with fail
    go_ret
    exact ⟨rfl, HB4.out⟩
  have t1 : ((x.length : Int) == 0) = false := by simpa using hx
  obtain ⟨q, hq⟩ : ∃ q : Nat, which % (x.length : Int) = q := ⟨(which % (x.length : Int)).toNat, by rw [Int.toNat_of_nonneg (Int.emod_nonneg _ (by omega))]⟩
  have hqx : q < x.length := by
    have := Int.emod_lt_of_pos which (show (0 : Int) < x.length by omega)
    omega
  obtain ⟨b, hbq⟩ : ∃ b, x[q]? = some b := ⟨_, List.getElem?_eq_getElem hqx⟩
  obtain ⟨r1, r2, r3, f1, f2, f3, hck1, hck2, hlaw⟩ := rows_law (fun b hb => (FO.out b hb).1) hbq
  have HCK := Lib.hid hck1
  have HCK2 := Lib.hid hck2
  have HLAW := Lib.hid hlaw
  have hrd : rd_T31 x (q : Int) = b := by
    unfold rd_T31; rw [Int.toNat_natCast, List.getD_eq_getElem?_getD, hbq]; rfl
  have HRD := Lib.hid hrd
  have x0 : (0 : Int) < x.length := by omega
  have bq0 : (0 : Int) ≤ (q : Int) := Int.natCast_nonneg _
  have bq1 : (q : Int) < (x.length : Int) := by omega
  clear hck hck1 hck2 hlaw hbq hrd hx
  go_wp2_with fail
  refine (code_Check.calls A3 c3 x r1 r2 r3 _ HC3.out hl3 HCK.out).mono ?_
  rintro e w4 ⟨rfl, hb4⟩
  have HC4 := Lib.hid (Kd.C_below HC3.out hb4)
  have HB4 := Lib.hid (below_then HB2.out HB2.out.size hb4)
  clear hb4 HC3 HB2 HN2
  obtain ⟨ad, A1, c1, hA, z0, z1, hl1, hC1⟩ := at_T31 HC4.out (q : Int) (by omega) (by omega)
  rw [HRD.out] at z0 z1 hl1 hC1
  rw [Int.toNat_natCast] at z0 z1
  cases hA
  have HC1 := Lib.hid hC1
  obtain ⟨ys, hrep, hsrc, hone⟩ := Lib2.C_src (c := c3) HC4.out (by omega)
  have HREP := Lib.hid hrep
  have HONE := Lib.hid hone
  have HS : Hid (∀ W, Heap.Chg [] w4 W → Own.Src W 2 (.slice (some ad) x.length c3) x.length ys) := Lib.hid (fun W k => hsrc.grow k)
  clear hC1 hrep hsrc hone
  have KEEP : Hid (∀ W, Heap.Chg [] w4 W → W.cell? (ad.add (q * 2)) = some (.int .i64 b.f0) ∧ W.cell? ⟨(ad.add (q * 2)).block, (ad.add (q * 2)).off + 1, none⟩ = some (.slice A1 b.f1.length c1)) := Lib.hid (fun W k => ⟨k.cell z0 (by simp), k.cell z1 (by simp)⟩)
  have FIN : Hid (∀ w6 B4 c40, Heap.Chg [] w4 w6 → w6.ownsRow 0 31 2 (.slice B4 (x.length + 1) c40) (x.length + 1) (ys ++ [.int .i64 b.f0, .slice A1 b.f1.length c1]) → x.length + 1 ≤ c40 ∧ Kd.C k31 w6 B4 (x.length + 1) (x ++ [b])) := Lib.hid (fun w6 B4 c40 k6 ho6 => by
    obtain ⟨A, c, h1, h2, h3⟩ := Lib2.own_C k31 (xs := x ++ [b]) ho6 (by simp) ((Lib2.K_mono HREP.out k6.below).snoc (k31_mk w6 b hl1 (Kd.C_below HC1.out k6.below)) rfl)
    simp only [Value.slice.injEq] at h1
    obtain ⟨rfl, _, rfl⟩ := h1
    exact ⟨h2, h3⟩)
  have hlx : (x ++ [b]).length = x.length + 1 := by simp
  have ck := fun W B c (h : Kd.C k31 W B (x ++ [b]).length (x ++ [b])) (hl : (x ++ [b]).length ≤ c) => code_Check.calls B c (x ++ [b]) f1 f2 f3 W h hl HCK2.out
  rw [hlx] at ck
  have CK := Lib.hid ck
  clear hlx ck
  go_upto_region 7 with fail
  rw [hq]
  clear hq
  go_region_held3 (fun w' => w'.cell? (ad.add (q * 2)) = some (.int .i64 b.f0) ∧ w'.cell? ⟨(ad.add (q * 2)).block, (ad.add (q * 2)).off + 1, none⟩ = some (.slice A1 b.f1.length c1))
    (first | go_keep | exact KEEP.out _ (by repeat (first | assumption | exact Heap.Chg.refl _ _ | apply Heap.Chg.drew | apply Heap.Chg.alloc)))
    (first
      | (refine Own.app_step_lit (W := w4.drew) (by rfl) (.tmp 40) (.tmp 41) 22 (by rfl) 31 (.agg #[(.int .i64 0), (.slice none 0 0)]) 2 32 Tryd.underlying22 infoBl rfl (by decide) (by decide) (by rfl) _ x.length ys (by rfl) (HS.out _ (Heap.Chg.refl _ _).drew) HONE.out (by omega) ?_; intro b3 c30 w3 ho3 hb3 hc3; have k3 : Heap.Chg [] w4 w3 := (Heap.Chg.refl _ _).drew.same hc3; have OB3 : ∀ k, k ∈ Own.ob (.slice (some ⟨b3, 0, none⟩) x.length c30) → w4.heap.size ≤ k := (fun k hk => by (have := Own.mem_ob.1 hk; simp [Value.ownBlock] at this; simp at hb3; omega)))
      | (refine Own.app_step_lit (W := w4.drew.alloc (.cells #[.int .i64 b.f0, .slice A1 b.f1.length c1] 31)) (by rfl) (.tmp 40) (.tmp 41) 22 (by rfl) 31 (.agg #[(.int .i64 0), (.slice none 0 0)]) 2 32 Tryd.underlying22 infoBl rfl (by decide) (by decide) (by first | rfl | (refine Eq.trans (b := Value.slice (some ⟨w4.heap.size + 1, 0, none⟩) 0 0) rfl ?_; simp)) _ x.length ys (by rfl) (HS.out _ ((Heap.Chg.refl _ _).drew.alloc _)) HONE.out (by omega) ?_; intro b3 c30 w3 ho3 hb3 hc3; have k3 : Heap.Chg [] w4 w3 := ((Heap.Chg.refl _ _).drew.alloc _).same hc3; have OB3 : ∀ k, k ∈ Own.ob (.slice (some ⟨b3, 0, none⟩) x.length c30) → w4.heap.size ≤ k := (fun k hk => by (have := Own.mem_ob.1 hk; simp [Value.ownBlock] at this; simp at hb3; omega)); have hL3 := hc3.at (Heap.blk_new (w := w4.drew) (k := w4.heap.size) (o := (.cells #[.int .i64 b.f0, .slice A1 b.f1.length c1] 31)) rfl) List.not_mem_nil)
      | (refine Lib2.app_step_lit2 (W := w4.drew) (by rfl) (.tmp 40) (.tmp 41) 22 (by rfl) 31 (.agg #[(.int .i64 0), (.slice none 0 0)]) 2 32 Tryd.underlying22 infoBl rfl (by decide) (by decide) (by rfl) _ x.length ys (by rfl) (.cells #[.int .i64 b.f0, .slice A1 b.f1.length c1] 31) (HS.out _ (Heap.Chg.refl _ _).drew) HONE.out (by omega) ?_; intro B3 c30 w3 ho3 OB3 hc3; have k3 : Heap.Chg [] w4 w3 := (((Heap.Chg.refl [] w4).drew.alloc _).alloc _).trans hc3 (fun b hb => .inr (by simp at hb; subst hb; exact Nat.le_refl _)); have hL3 := hc3.at (Heap.blk_new (w := w4.drew.alloc (.cells #[] 31)) (k := w4.heap.size + 1) (o := (.cells #[.int .i64 b.f0, .slice A1 b.f1.length c1] 31)) (by simp)) (by simp))
      | (refine Own.app_step (W := w3.alloc (.cells #[.int .i64 b.f0, .slice A1 b.f1.length c1] 31)) (by rfl) (.tmp 42) (.tmp 47) 22 (by rfl) 0 31 (.agg #[(.int .i64 0), (.slice none 0 0)]) 2 32 Tryd.underlying22 infoBl rfl (by decide) (by decide) _ x.length ys (by rfl) (Own.own_keep ho3 ((Heap.Chg.refl [] w3).alloc _) (by simp)) _ 1 [.int .i64 b.f0, .slice A1 b.f1.length c1] (by rfl) (Own.src_new _ _ _ _ _ _ (by rfl) rfl) (by simp [Value.oneCell']) (Nat.zero_le _) (by omega) ?_; intro B4 c40 w6 ho6 hc6 _; have k6 : Heap.Chg [] w4 w6 := (k3.alloc _).trans hc6 (fun b hb => .inr (OB3 b hb)); obtain ⟨hl6, hC6⟩ := FIN.out w6 B4 c40 k6 ho6)
      | (refine Own.app_step (W := w3) (by rfl) (.tmp 42) (.tmp 47) 22 (by rfl) 0 31 (.agg #[(.int .i64 0), (.slice none 0 0)]) 2 32 Tryd.underlying22 infoBl rfl (by decide) (by decide) _ x.length ys (by rfl) ho3 _ 1 [.int .i64 b.f0, .slice A1 b.f1.length c1] (by rfl) (Lib2.src_blk (cs := [.int .i64 b.f0, .slice A1 b.f1.length c1]) hL3 (by rfl)) (by simp [Value.oneCell']) (Nat.zero_le _) (by omega) ?_; intro B4 c40 w6 ho6 hc6 _; have k6 : Heap.Chg [] w4 w6 := k3.trans hc6 (fun b hb => .inr (OB3 b hb)); obtain ⟨hl6, hC6⟩ := FIN.out w6 B4 c40 k6 ho6)
      | (go_at_call 10; refine (CK.out _ _ _ hC6 hl6).mono ?_; rintro e w9 ⟨rfl, hb9⟩; have k9 := k6.same (Heap.Chg.of_below hb9)))
  all_goals
    have HB9 := Lib.hid (below_then HB4.out HB4.out.size k9.below)
    have HC9 := Lib.hid (Kd.C_below HC4.out k9.below)
    clear k9 hb9 hC6 k6 ho6 hc6 k3 hc3 ho3 OB3 z0 z1 KEEP FIN CK HS HONE HREP HC1 HC4 HB4
    rcases HLAW.out with ⟨rfl, rfl, rfl, rfl⟩ | ⟨rfl, by', hby, hor⟩
    · go_wp2_with fail
      go_ret
      exact ⟨rfl, HB9.out⟩
    · have HBY := Lib.hid hby
      clear hby HLAW
      have BY := Lib.hid (fun W (h : Below w9.heap.size w9 W) (hb : by' = true) => eddywheellaw11_beyond.calls (some ad) c3 x r1 r2 true W (Kd.C_below HC9.out h) hl3 (by rw [← hb]; exact HBY.out))
      rcases hor with ⟨rfl, hb⟩ | ⟨rfl, hor⟩
      · have HBT := Lib.hid hb
        clear hb
        go_wp2_with fail
        refine (code_Check.calls _ c3 x r1 r2 110 _ HC9.out hl3 HCK.out).mono ?_
        rintro e wA ⟨rfl, hbA⟩
        have HBA := Lib.hid hbA
        clear hbA
        go_wp2_with fail
        refine (BY.out _ HBA.out HBT.out).mono ?_
        rintro e wB ⟨rfl, hbB⟩
        have HBZ := Lib.hid (below_then HB9.out HB9.out.size (below_then HBA.out HBA.out.size hbB.below))
        clear hbB
        go_wp2_with fail
        go_ret
        exact ⟨rfl, HBZ.out⟩
      · by_cases e1 : f1 = r1 <;> by_cases e2 : f2 = r2
        · subst e1 e2
          have t2 : (f1 == f1) = true := by simp
          have t3 : (f2 == f2) = true := by simp
          clear hor
          go_wp2_with fail
          refine (code_Check.calls _ c3 x f1 f2 110 _ HC9.out hl3 HCK.out).mono ?_
          rintro e wA ⟨rfl, hbA⟩
          have HBZ := Lib.hid (below_then HB9.out HB9.out.size hbA)
          clear hbA
          go_wp2_with fail
          go_ret
          exact ⟨rfl, HBZ.out⟩
        all_goals
          have HBT : Hid (by' = true) := Lib.hid (by rcases hor with h | ⟨h1, h2⟩; exact h; first | exact absurd h1 e1 | exact absurd h2 e2)
          first | (have t2 : (f1 == r1) = true := by simpa using e1) | (have t2 : (f1 == r1) = false := by simpa using e1)
          first | (have t3 : (f2 == r2) = true := by simpa using e2) | (have t3 : (f2 == r2) = false := by simpa using e2)
          clear hor e1 e2
          go_wp2_with fail
          refine (code_Check.calls _ c3 x r1 r2 110 _ HC9.out hl3 HCK.out).mono ?_
          rintro e wA ⟨rfl, hbA⟩
          have HBA := Lib.hid hbA
          clear hbA
          go_wp2_with fail
          refine (BY.out _ HBA.out HBT.out).mono ?_
          rintro e wB ⟨rfl, hbB⟩
          have HBZ := Lib.hid (below_then HB9.out HB9.out.size (below_then HBA.out HBA.out.size hbB.below))
          clear hbB
          go_wp2_with fail
          go_ret
          exact ⟨rfl, HBZ.out⟩
end Go.Proofs.YtkiamiphmndmcaaDoor.PCodes

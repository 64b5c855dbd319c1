/- The walk of CodeChanged: for any blocks and any change the law answers true; its premises are what the row gives of its arguments. -/
import Derived.Test.YtkiamiphmndmcaaDoorChangedP
import Derived.Test.YtkiamiphmndmcaaDoorRd11
import Derived.Test.YtkiamiphmndmcaaDoorHeap
import Derived.Test.YtkiamiphmndmcaaDoorKdMore
import Derived.Lib.Hide
namespace Go.Proofs.YtkiamiphmndmcaaDoor.PCodes
open Go Go.RowKit Go.Proofs.YtkiamiphmndmcaaDoor.Heap Go.Proofs.YtkiamiphmndmcaaDoorW.PrintWords Go.Proofs.YtkiamiphmndmcaaDoorW.PrintMore
theorem shown_yes : eddywheellaw11_shown.f 5 = some true := by decide +kernel
theorem infoIns : (Tryd.prog.info? 38).map (fun i => (i.zero, i.size, i.bytes)) = some (some (.agg #[(.int .u8 0), (.int .i64 0), (.int .i64 0), (.int .u64 0)]), 4, 32) := by kernel_rfl
theorem chk_zero (bk : Int) : ∀ (l : List (S31)) (n : Nat), (chkRun bk l n).2.2 = 0 → chkRun bk l n = (0, 0, 0)
  | [], _, _ => rfl
  | b :: r, n, h => by
    simp only [chkRun] at h ⊢
    cases hb : blockBad bk n b with
    | none => rw [hb] at h; exact chk_zero bk r (n + 1) h
    | some a => rw [hb] at h; simp at h
theorem own_put {W : World} {base g n cap j f : Nat} {ok : Nat → Prop} {xs : List (S38)} {i i' : S38} {v : Value} (hR : Kd.R k38 38 W base ok (.slice (some ⟨g, 0, none⟩) n cap) xs) (hi : xs[j]? = some i) (hf : f < 4)
    (hv : [Value.int .u8 i.f0, .int .i64 i.f1, .int .i64 i.f2, .int .u64 i.f3].take f ++ [v] ++ [Value.int .u8 i.f0, .int .i64 i.f1, .int .i64 i.f2, .int .u64 i.f3].drop (f + 1) = [Value.int .u8 i'.f0, .int .i64 i'.f1, .int .i64 i'.f2, .int .u64 i'.f3]) :
    Kd.R k38 38 (W.setCell ⟨g, j * 4 + f, none⟩ v) base ok (.slice (some ⟨g, 0, none⟩) n cap) (xs.set j i') := by
  have hn := (Kd.R_reads' hR).1
  have hjl := (List.getElem?_eq_some_iff.1 hi).1
  obtain ⟨cs, hcl, hM, hcc, _⟩ := Kd.R_elem hR z38 (j : Int) (by omega) (by omega)
  rw [Int.toNat_natCast, List.getD_eq_getElem?_getD, hi] at hM
  obtain rfl := k38_openM hM
  have := (Kd.R_seg hR (j : Int) (by omega) (by omega) (c := [Value.int .u8 i.f0, .int .i64 i.f1, .int .i64 i.f2, .int .u64 i.f3]) (seg := [v]) (j := f) (x' := i') (okp := fun _ => False) rfl hcc (by show f + 1 ≤ 4; omega) (by
    simp only [List.length_singleton]
    rw [hv]; exact k38_mkM _ _ _ i') (fun _ hk => hk.elim)).1
  rw [Int.toNat_natCast] at this
  exact this
theorem row_put {W : World} {base base2 g n cap q g5 cap5 : Nat} {ok okp : Nat → Prop} {xs : List (S31)} {b : S31} {own : List (S38)} {v1 : Value} (hN : Kd.N k31 31 W base ok (.slice (some ⟨g, 0, none⟩) n cap) xs) (hb : xs[q]? = some b)
    (c0 : W.cell? ⟨g, q * 2, none⟩ = some (.int .i64 b.f0)) (c1 : W.cell? ⟨g, q * 2 + 1, none⟩ = some v1) (hR : Kd.R k38 38 W base2 okp (.slice (some ⟨g5, 0, none⟩) own.length cap5) own) (hokp : ∀ k, okp k → ok k ∧ k ≠ g) :
    Kd.N k31 31 (W.setCell ⟨g, q * 2 + 1, none⟩ (.slice (some ⟨g5, 0, none⟩) own.length cap5)) base ok (.slice (some ⟨g, 0, none⟩) n cap) (xs.set q ⟨b.f0, own⟩) := by
  have hn := (Kd.N_reads' hN).1
  have hjl := (List.getElem?_eq_some_iff.1 hb).1
  have hF := Kd.R_F hR
  have := (Kd.N_seg hN (q : Int) (by omega) (by omega) (c := [.int .i64 b.f0, v1]) (seg := [.slice (some ⟨g5, 0, none⟩) own.length cap5]) (j := 1) (x' := ⟨b.f0, own⟩) (okp := okp) rfl (by
    intro j u hu
    rw [Int.toNat_natCast]
    show W.cell? ⟨g, q * 2 + j, none⟩ = some u
    rcases j with _ | _ | j
    · simp at hu; subst hu; exact c0
    · simp at hu; subst hu; exact c1
    · simp at hu) (by show 1 + 1 ≤ 2; omega) (by
    show Kd.FK k31 W okp ⟨b.f0, own⟩ [.int .i64 b.f0, .slice (some ⟨g5, 0, none⟩) own.length cap5]
    exact k31_mkF W okp ⟨b.f0, own⟩ (Kd.R_reads' hR).2.1 hF) hokp).1
  rw [Int.toNat_natCast] at this
  exact this
set_option maxRecDepth 100000 in
set_option maxHeartbeats 8000000 in
theorem walkChanged (A : Option Addr) (c : Nat) (l : List (S31)) (which at' how : Int) (w : World) (hF : Kd.F k31 w (fun _ => True) A l.length l) (hl : l.length ≤ c) (hw : l.length ≤ maxLen ∧ ∀ b ∈ l, Lib2.blockWf b)
    (h8 : (Lit.int .u8 which).wf = true) (h9 : (Lit.int .u8 at').wf = true) (h10 : (Lit.int .u8 how).wf = true) :
    Calls Tryd.prog 4 #[.slice A l.length c, .int .u8 which, .int .u8 at', .int .u8 how] w fun e w' => e = .returned (.bool true) ∧ Below w.heap.size w w' := by
  obtain ⟨f1, f2, f3⟩ := Lib2.rd_fine hw
  have FO := Lib.hid (fewP_ok l f3)
  have FL := fewP_len l
  have FE := Lib.hid (few_ok l f1 f2)
  have HF := Lib.hid hF
  have e8 : IntKind.u8.min = 0 ∧ IntKind.u8.max = 255 := by decide
  simp only [Lit.wf, e8.1, e8.2, Bool.and_eq_true, decide_eq_true_eq] at h8 h9 h10
  obtain ⟨w0, w8⟩ := h8
  obtain ⟨a0, a8⟩ := h9
  obtain ⟨g0, g8⟩ := h10
  clear hw f1 f2 f3 hF e8
  go_enter Tryd.func4, Tryd.ntmps4
  go_wp2_with fail
  refine (eddywheellaw11_shown.calls 5 true _ shown_yes).mono ?_
  rintro e w1 ⟨rfl, hb1⟩
  have HB1 := Lib.hid hb1
  clear hb1
  go_wp2_with fail
  refine (eddywheellaw11_few.calls (l.length + 1) (fun _ => True) A c l (fewP l) w1 (Kd.V_mk hl (Kd.F_below HF.out HB1.out)) FE.out).mono ?_
  rintro e w2 ⟨v2, rfl, hN2, hb2⟩
  obtain ⟨A3, c3, hv3, hl3, hC3⟩ := Kd.N_reads hN2
  subst hv3
  have HC3 := Lib.hid hC3
  have HN2 := Lib.hid hN2
  have HB2 := Lib.hid (below_then HB1.out HB1.out.size hb2)
  have HS1 := HB1.out.size
  clear hC3 hN2 hb2 FE hl
  generalize fewP l = x at *
  have hck := check_some x (fun b hb => (FO.out b hb).1)
  by_cases hx : x.length = 0
  · rw [if_pos hx] at hck
    have HCK := Lib.hid hck
    have t1 : ((x.length : Int) == 0) = true := by simp [hx]
    clear hck hx
    go_wp2_with fail
    refine (code_Check.calls A3 c3 x 0 0 1 _ HC3.out hl3 HCK.out).mono ?_
    rintro e w4 ⟨rfl, hb4⟩
    have HB4 := Lib.hid (below_then HB2.out HB2.out.size hb4)
    clear hb4
    go_wp2_with fail
    go_ret
    exact ⟨rfl, HB4.out⟩
  rw [if_neg hx] at hck
  have t1 : ((x.length : Int) == 0) = false := by simpa using hx
  have hcodes := chk_codes x.length x 0
  have hzero := chk_zero x.length x 0
  obtain ⟨r, hr⟩ : ∃ r, chkRun x.length x 0 = r := ⟨_, rfl⟩
  rw [hr] at hck hcodes hzero
  obtain ⟨r1, r2, r3⟩ := r
  simp only at hcodes hzero
  by_cases h3 : r3 = 0
  case neg =>
    obtain rfl : r3 = 110 := by omega
    have HCK := Lib.hid hck
    clear hck hx hcodes hzero hr h3 t1
    go_wp2_with fail
    refine (code_Check.calls A3 c3 x r1 r2 110 _ HC3.out hl3 HCK.out).mono ?_
    rintro e w4 ⟨rfl, hb4⟩
    have HB4 := Lib.hid (below_then HB2.out HB2.out.size hb4)
    clear hb4
    go_wp2_with fail
    go_ret
    exact ⟨rfl, HB4.out⟩
  subst h3
  have hr0 := hzero rfl
  rw [hr0] at hr hck
  have HR := Lib.hid hr
  have HCK := Lib.hid hck
  obtain ⟨q, hq⟩ : ∃ q : Nat, which % (x.length : Int) = q := ⟨(which % (x.length : Int)).toNat, by rw [Int.toNat_of_nonneg (Int.emod_nonneg _ (by omega))]⟩
  have hqx : q < x.length := by
    have := Int.emod_lt_of_pos which (show (0 : Int) < x.length by omega)
    omega
  obtain ⟨b, hbq⟩ : ∃ b, x[q]? = some b := ⟨_, List.getElem?_eq_getElem hqx⟩
  obtain ⟨hbo, hb60⟩ := FO.out b (List.mem_of_getElem? hbq)
  have hfine := chk_fine x.length x 0 (by rw [hr])
  have hd3 : 0 < b.f1.length := by obtain ⟨d, _, _, hd3, _⟩ := bad_none hbo (hfine q b hbq); exact hd3
  have HBQ := Lib.hid hbq
  have HBO := Lib.hid hbo
  have hrd : rd_T31 x (q : Int) = b := by
    unfold rd_T31; rw [Int.toNat_natCast, List.getD_eq_getElem?_getD, hbq]; rfl
  have HRD := Lib.hid hrd
  have x0 : (0 : Int) < x.length := by omega
  have bq0 : (0 : Int) ≤ (q : Int) := Int.natCast_nonneg _
  have bq1 : (q : Int) < (x.length : Int) := by omega
  clear hck hcodes hfine hr hbq hrd hbo hx hzero hr0
  go_wp2_with fail
  refine (code_Check.calls A3 c3 x 0 0 0 _ HC3.out hl3 HCK.out).mono ?_
  rintro e w4 ⟨rfl, hb4⟩
  have HC4 := Lib.hid (Kd.C_below HC3.out hb4)
  have HN4 := Lib.hid (Kd.N_below HN2.out hb4)
  have HB4 := Lib.hid (below_then HB2.out HB2.out.size hb4)
  clear hb4 HC3 HB2 HN2
  obtain ⟨g, cap, hv3, hbase, hglt, cellsx, hgb⟩ := Kd.N_form HN4.out (by omega)
  simp only [Value.slice.injEq] at hv3
  obtain ⟨rfl, _, rfl⟩ := hv3
  obtain ⟨ad, A1, c1, hA, z0, z1, hl1, hC1⟩ := at_T31 HC4.out (q : Int) (by omega) (by omega)
  rw [HRD.out] at z0 z1 hl1 hC1
  rw [Int.toNat_natCast] at z0 z1
  cases hA
  simp only [add_plain] at z0 z1
  have HC1 := Lib.hid hC1
  have HGB := Lib.hid hgb
  clear hC1 hgb
  go_wp2_with fail
  rw [hq]
  have HZ0 := Lib.hid z0
  have HZ1 := Lib.hid z1
  clear z0 z1 HF HCK hq
  go_loopw [15, 54] (fun v i wx => ∃ k : Nat, i = .int .i64 k ∧ k ≤ b.f1.length ∧ Hid (Kd.R k38 38 wx w4.heap.size (fun k => w4.heap.size ≤ k) v (b.f1.take k)) ∧ Hid (Below w4.heap.size w4 wx)) (fun _ i _ => b.f1.length - (intOf i).toNat)
  case atStart => exact ⟨0, rfl, Nat.zero_le _, Lib.hid (Kd.R_nil _ _ _ _ _), Lib.hid (Below.refl _ _)⟩
  case round =>
    obtain ⟨k, rfl, hk, HR5, HB5⟩ := hrel
    by_cases hlt : k < b.f1.length
    · obtain ⟨i, hi⟩ : ∃ i, b.f1[k]? = some i := ⟨_, List.getElem?_eq_getElem hlt⟩
      have hrd : rd_T38 b.f1 (k : Int) = i := by
        unfold rd_T38; rw [Int.toNat_natCast, List.getD_eq_getElem?_getD, hi]; rfl
      obtain ⟨aI, hAI, i0, i1, i2, i3⟩ := at_T38 (Kd.C_below HC1.out HB5.out) (k : Int) (by omega) (by omega)
      rw [hrd] at i0 i1 i2 i3
      rw [Int.toNat_natCast] at i0 i1 i2 i3
      cases hAI
      have hnx : b.f1.take (k + 1) = b.f1.take k ++ [i] := by rw [List.take_add_one, hi]; rfl
      have HNX := Lib.hid hnx
      have htk : (b.f1.take k).length ≤ 60 := by simp; omega
      have bk0 : (0 : Int) ≤ (k : Int) := Int.natCast_nonneg _
      have bk1 : (k : Int) < (b.f1.length : Int) := by omega
      clear hi hrd hnx
      obtain ⟨f0, f1, f2, f3⟩ := i
      simp only at i0 i1 i2 i3
      have HR6 := Lib.hid (Kd.R_alloc HR5.out (.cells #[.int .u8 f0, .int .i64 f1, .int .i64 f2, .int .u64 f3] 38))
      have HB6 := Lib.hid (below_alloc HB5.out (.cells #[.int .u8 f0, .int .i64 f1, .int .i64 f2, .int .u64 f3] 38))
      have HX6 := Heap.blk_new (w := wr) (o := .cells #[.int .u8 f0, .int .i64 f1, .int .i64 f2, .int .u64 f3] 38) rfl
      go_upto_region 11 with fail
      generalize wr.alloc (.cells #[.int .u8 f0, .int .i64 f1, .int .i64 f2, .int .u64 f3] 38) = w6 at *
      generalize wr.heap.size = pi' at *
      have j0 : w6.cell? ⟨pi', 0, none⟩ = some (.int .u8 f0) := by rw [Heap.blk_cell HX6]; rfl
      have j1 : w6.cell? ⟨pi', 1, none⟩ = some (.int .i64 f1) := by rw [Heap.blk_cell HX6]; rfl
      have j2 : w6.cell? ⟨pi', 2, none⟩ = some (.int .i64 f2) := by rw [Heap.blk_cell HX6]; rfl
      have j3 : w6.cell? ⟨pi', 3, none⟩ = some (.int .u64 f3) := by rw [Heap.blk_cell HX6]; rfl
      clear i0 i1 i2 i3 HX6
      go_wp2_with (at_builtin; refine Kd.R_append k38 (w0 := w4) w4.heap.size rfl (.tmp 58) (.tmp 60) 29 38 (.agg #[(.int .u8 0), (.int .i64 0), (.int .i64 0), (.int .u64 0)]) 32 rfl Tryd.underlying29 infoIns rfl (by decide) (by omega) _ (b.f1.take k) ⟨f0, f1, f2, f3⟩ [.int .u8 f0, .int .i64 f1, .int .i64 f2, .int .u64 f3] (fun k => w4.heap.size ≤ k) (fun _ => False) rfl rfl (k38_mkM _ _ _ ⟨f0, f1, f2, f3⟩) (fun _ hk => hk.elim) (fun k hk => Nat.le_trans HB6.out.size hk) HR6.out HB6.out HB6.out.size (by omega) ?_; intro v1 w7 hr7 hb7 _ _; rw [← HNX.out] at hr7; have HR7 := Lib.hid hr7; have HB7 := Lib.hid hb7; clear hr7 hb7)
      go_roundw
      case rel => exact ⟨k + 1, by go_num, by omega, HR7, HB7⟩
      case measure => simp [intOf]; omega
    · obtain rfl : k = b.f1.length := by omega
      have hR5 := HR5.out
      rw [List.take_length] at hR5
      obtain ⟨g5, cap5, hv5, hb5, hlt5, cells5, hg5⟩ := Kd.R_form hR5 hd3
      subst hv5
      have HR6 := Lib.hid hR5
      have HG5 := Lib.hid hg5
      clear hR5 HR5 hg5
      have t2 : ((b.f1.length : Int) == 0) = false := by rw [beq_eq_false_iff_ne]; omega
      obtain ⟨j, hj⟩ : ∃ j : Nat, at' % (b.f1.length : Int) = j := ⟨(at' % (b.f1.length : Int)).toNat, by rw [Int.toNat_of_nonneg (Int.emod_nonneg _ (by omega))]⟩
      have hjx : j < b.f1.length := by
        have := Int.emod_lt_of_pos at' (show (0 : Int) < b.f1.length by omega)
        omega
      obtain ⟨i, hi⟩ : ∃ i, b.f1[j]? = some i := ⟨_, List.getElem?_eq_getElem hjx⟩
      have hHI := Lib.hid hi
      have HOI := Lib.hid (HBO.out.2 i (List.mem_of_getElem? hi))
      have HMI : Hid (∃ y, mayIns x.length i y = true) := Lib.hid (by
        obtain ⟨d, _, _, _, h4, _, _, _, _, h6⟩ := bad_none HBO.out (chk_fine x.length x 0 (by rw [HR.out]) q b HBQ.out)
        exact ⟨d.getD j 0, firstBad_may (by omega) h6 j i _ hi (by rw [List.getD_eq_getElem?_getD, List.getElem?_eq_getElem (by omega)]; rfl)⟩)
      have hrd : b.f1.getD j z38 = i := by rw [List.getD_eq_getElem?_getD, hi]; rfl
      obtain ⟨cs, hcl, hM, hcc, hfr⟩ := Kd.R_elem HR6.out z38 (j : Int) (by omega) (by omega)
      rw [Int.toNat_natCast, hrd] at hM
      obtain rfl := k38_openM hM
      rw [Int.toNat_natCast] at hcc hfr
      have q0 : wr.cell? ⟨g5, j * 4, none⟩ = some (.int .u8 i.f0) := hcc 0 _ rfl
      have q2 : wr.cell? ⟨g5, j * 4 + 2, none⟩ = some (.int .i64 i.f2) := hcc 2 _ rfl
      have q3 : wr.cell? ⟨g5, j * 4 + 3, none⟩ = some (.int .u64 i.f3) := hcc 3 _ rfl
      have p2 : wr.frozen? ⟨g5, j * 4 + 2, none⟩ = false := hfr 2
      have p3 : wr.frozen? ⟨g5, j * 4 + 3, none⟩ = false := hfr 3
      have hgb := (HB5.out.block g hglt).trans HGB.out
      have HGW := Lib.hid hgb
      have HY0 := Lib.hid ((HB5.out.cell (World.block_lt_of_cell? _ _ HZ0.out)).trans HZ0.out)
      have HY1 := Lib.hid ((HB5.out.cell (World.block_lt_of_cell? _ _ HZ1.out)).trans HZ1.out)
      have HNW := Lib.hid (Kd.N_old HN4.out HB5.out)
      have HBW := Lib.hid (below_then HB4.out HB4.out.size HB5.out)
      have bj0 : (0 : Int) ≤ (j : Int) := Int.natCast_nonneg _
      have bj1 : (j : Int) < (b.f1.length : Int) := by omega
      have hwg : w.heap.size ≤ g5 := Nat.le_trans HB4.out.size hb5
      have hwg2 : w.heap.size ≤ g := Nat.le_trans HS1 hbase
      clear hi hrd hcl hM hcc hfr hgb HN4 HC4 HC1 HGB HZ0 HZ1
      have h3 : how % 3 = 0 ∨ how % 3 = 1 ∨ how % 3 = 2 := by omega
      rcases h3 with hh0 | hh0 | hh0
      · by_cases o0 : i.f0 = 1
        · have hcp : chgP 0 i = (⟨i.f0, i.f1, 1, i.f3⟩ : S38) := by simp [chgP, o0]
          have CC0 := Lib.hid (changed_chk (i' := chgP 0 i) (fun a ha => (FO.out a ha).1) HR.out HBQ.out hHI.out chg_same (chg_ok HOI.out) (by obtain ⟨y0, hy0⟩ := HMI.out; exact fun y => chg_bad hy0 y))
          rw [hcp] at CC0
          have HP := Lib.hid (own_put (f := 2) (v := .int .i64 1) (i' := ⟨i.f0, i.f1, 1, i.f3⟩) HR6.out hHI.out (by decide) (by simp))
          have HN7 := Lib.hid (Kd.N_mono (Kd.N_far (p := ⟨g5, j * 4 + 2, none⟩) HNW.out (fun k hk => by have := hk.2; show k ≠ g5; omega) (.int .i64 1)) (ok' := fun _ => True) (fun _ _ => trivial))
          have HB7 := Lib.hid (HBW.out.setCell (p := ⟨g5, j * 4 + 2, none⟩) hwg (.int .i64 1))
          have hg7 := Heap.blk_far HGW.out (p := ⟨g5, j * 4 + 2, none⟩) (by show g ≠ g5; omega) (.int .i64 1)
          have x1 : (wr.setCell ⟨g5, j * 4 + 2, none⟩ (.int .i64 1)).cell? ⟨g, q * 2, none⟩ = some (.int .i64 b.f0) := by rw [Heap.blk_cell hg7]; rw [← Heap.blk_cell HGW.out]; exact HY0.out
          have x2 : (wr.setCell ⟨g5, j * 4 + 2, none⟩ (.int .i64 1)).cell? ⟨g, q * 2 + 1, none⟩ = some (.slice A1 b.f1.length c1) := by rw [Heap.blk_cell hg7]; rw [← Heap.blk_cell HGW.out]; exact HY1.out
          have x3 : (wr.setCell ⟨g5, j * 4 + 2, none⟩ (.int .i64 1)).frozen? ⟨g, q * 2 + 1, none⟩ = false := Heap.blk_frozen hg7 _
          have X1 := Lib.hid x1
          have X2 := Lib.hid x2
          have X3 := Lib.hid x3
          clear hcp hg7 x1 x2 x3
          have hh := hh0
          have t20 : (i.f0 == 1) = true := by simp [o0]
          clear o0
          go_upto_region 29 with fail
          generalize wr.setCell ⟨g5, j * 4 + 2, none⟩ (.int .i64 1) = W7 at *
          have hP := HP.out
          rw [show b.f1.length = (b.f1.set j ⟨i.f0, i.f1, 1, i.f3⟩).length by simp] at hP
          have hN8 := row_put HN7.out HBQ.out X1.out X2.out hP (fun k hk => ⟨trivial, by omega⟩)
          rw [show (b.f1.set j ⟨i.f0, i.f1, 1, i.f3⟩).length = b.f1.length by simp] at hN8
          have HN9 := Lib.hid hN8
          have HB9 := Lib.hid (HB7.out.setCell (p := ⟨g, q * 2 + 1, none⟩) hwg2 (.slice (some ⟨g5, 0, none⟩) b.f1.length cap5))
          have y2 := X2.out
          have y3 := X3.out
          clear hN8 hP q0 q2 q3 p2 p3
          go_wp2_with fail
          have hln := (Kd.N_reads' HN9.out).2.1
          have hC9 := (Kd.N_reads' HN9.out).2.2
          have CK := code_Check.calls (some ⟨g, 0, none⟩) c3 (x.set q ⟨b.f0, b.f1.set j ⟨i.f0, i.f1, 1, i.f3⟩⟩) _ _ _ _ hC9 (by rw [List.length_set]; omega) CC0.out
          rw [List.length_set] at CK
          have HCK := Lib.hid CK
          clear CK hC9 hln y2 y3
          refine HCK.out.mono ?_
          rintro e w9 ⟨rfl, hb9⟩
          have HBE := Lib.hid (below_then HB9.out HB9.out.size hb9)
          clear hb9
          go_wp2_with fail
          go_ret
          exact ⟨rfl, HBE.out⟩
        · have hcp : chgP 0 i = (⟨i.f0, i.f1, i.f2, 8⟩ : S38) := by simp [chgP, o0]
          have CC0 := Lib.hid (changed_chk (i' := chgP 0 i) (fun a ha => (FO.out a ha).1) HR.out HBQ.out hHI.out chg_same (chg_ok HOI.out) (by obtain ⟨y0, hy0⟩ := HMI.out; exact fun y => chg_bad hy0 y))
          rw [hcp] at CC0
          have HP := Lib.hid (own_put (f := 3) (v := .int .u64 8) (i' := ⟨i.f0, i.f1, i.f2, 8⟩) HR6.out hHI.out (by decide) (by simp))
          have HN7 := Lib.hid (Kd.N_mono (Kd.N_far (p := ⟨g5, j * 4 + 3, none⟩) HNW.out (fun k hk => by have := hk.2; show k ≠ g5; omega) (.int .u64 8)) (ok' := fun _ => True) (fun _ _ => trivial))
          have HB7 := Lib.hid (HBW.out.setCell (p := ⟨g5, j * 4 + 3, none⟩) hwg (.int .u64 8))
          have hg7 := Heap.blk_far HGW.out (p := ⟨g5, j * 4 + 3, none⟩) (by show g ≠ g5; omega) (.int .u64 8)
          have x1 : (wr.setCell ⟨g5, j * 4 + 3, none⟩ (.int .u64 8)).cell? ⟨g, q * 2, none⟩ = some (.int .i64 b.f0) := by rw [Heap.blk_cell hg7]; rw [← Heap.blk_cell HGW.out]; exact HY0.out
          have x2 : (wr.setCell ⟨g5, j * 4 + 3, none⟩ (.int .u64 8)).cell? ⟨g, q * 2 + 1, none⟩ = some (.slice A1 b.f1.length c1) := by rw [Heap.blk_cell hg7]; rw [← Heap.blk_cell HGW.out]; exact HY1.out
          have x3 : (wr.setCell ⟨g5, j * 4 + 3, none⟩ (.int .u64 8)).frozen? ⟨g, q * 2 + 1, none⟩ = false := Heap.blk_frozen hg7 _
          have X1 := Lib.hid x1
          have X2 := Lib.hid x2
          have X3 := Lib.hid x3
          clear hcp hg7 x1 x2 x3
          have hh := hh0
          have t20 : (i.f0 == 1) = false := by simp [o0]
          clear o0
          go_upto_region 29 with fail
          generalize wr.setCell ⟨g5, j * 4 + 3, none⟩ (.int .u64 8) = W7 at *
          have hP := HP.out
          rw [show b.f1.length = (b.f1.set j ⟨i.f0, i.f1, i.f2, 8⟩).length by simp] at hP
          have hN8 := row_put HN7.out HBQ.out X1.out X2.out hP (fun k hk => ⟨trivial, by omega⟩)
          rw [show (b.f1.set j ⟨i.f0, i.f1, i.f2, 8⟩).length = b.f1.length by simp] at hN8
          have HN9 := Lib.hid hN8
          have HB9 := Lib.hid (HB7.out.setCell (p := ⟨g, q * 2 + 1, none⟩) hwg2 (.slice (some ⟨g5, 0, none⟩) b.f1.length cap5))
          have y2 := X2.out
          have y3 := X3.out
          clear hN8 hP q0 q2 q3 p2 p3
          go_wp2_with fail
          have hln := (Kd.N_reads' HN9.out).2.1
          have hC9 := (Kd.N_reads' HN9.out).2.2
          have CK := code_Check.calls (some ⟨g, 0, none⟩) c3 (x.set q ⟨b.f0, b.f1.set j ⟨i.f0, i.f1, i.f2, 8⟩⟩) _ _ _ _ hC9 (by rw [List.length_set]; omega) CC0.out
          rw [List.length_set] at CK
          have HCK := Lib.hid CK
          clear CK hC9 hln y2 y3
          refine HCK.out.mono ?_
          rintro e w9 ⟨rfl, hb9⟩
          have HBE := Lib.hid (below_then HB9.out HB9.out.size hb9)
          clear hb9
          go_wp2_with fail
          go_ret
          exact ⟨rfl, HBE.out⟩
      · by_cases o0 : i.f0 = 11
        · have hcp : chgP 1 i = (⟨i.f0, i.f1, i.f2, 1⟩ : S38) := by simp [chgP, o0]
          have CC0 := Lib.hid (changed_chk (i' := chgP 1 i) (fun a ha => (FO.out a ha).1) HR.out HBQ.out hHI.out chg_same (chg_ok HOI.out) (by obtain ⟨y0, hy0⟩ := HMI.out; exact fun y => chg_bad hy0 y))
          rw [hcp] at CC0
          have HP := Lib.hid (own_put (f := 3) (v := .int .u64 1) (i' := ⟨i.f0, i.f1, i.f2, 1⟩) HR6.out hHI.out (by decide) (by simp))
          have HN7 := Lib.hid (Kd.N_mono (Kd.N_far (p := ⟨g5, j * 4 + 3, none⟩) HNW.out (fun k hk => by have := hk.2; show k ≠ g5; omega) (.int .u64 1)) (ok' := fun _ => True) (fun _ _ => trivial))
          have HB7 := Lib.hid (HBW.out.setCell (p := ⟨g5, j * 4 + 3, none⟩) hwg (.int .u64 1))
          have hg7 := Heap.blk_far HGW.out (p := ⟨g5, j * 4 + 3, none⟩) (by show g ≠ g5; omega) (.int .u64 1)
          have x1 : (wr.setCell ⟨g5, j * 4 + 3, none⟩ (.int .u64 1)).cell? ⟨g, q * 2, none⟩ = some (.int .i64 b.f0) := by rw [Heap.blk_cell hg7]; rw [← Heap.blk_cell HGW.out]; exact HY0.out
          have x2 : (wr.setCell ⟨g5, j * 4 + 3, none⟩ (.int .u64 1)).cell? ⟨g, q * 2 + 1, none⟩ = some (.slice A1 b.f1.length c1) := by rw [Heap.blk_cell hg7]; rw [← Heap.blk_cell HGW.out]; exact HY1.out
          have x3 : (wr.setCell ⟨g5, j * 4 + 3, none⟩ (.int .u64 1)).frozen? ⟨g, q * 2 + 1, none⟩ = false := Heap.blk_frozen hg7 _
          have X1 := Lib.hid x1
          have X2 := Lib.hid x2
          have X3 := Lib.hid x3
          clear hcp hg7 x1 x2 x3
          have hh := hh0
          have t20 : (i.f0 == 11) = true := by simp [o0]
          clear o0
          go_upto_region 29 with fail
          generalize wr.setCell ⟨g5, j * 4 + 3, none⟩ (.int .u64 1) = W7 at *
          have hP := HP.out
          rw [show b.f1.length = (b.f1.set j ⟨i.f0, i.f1, i.f2, 1⟩).length by simp] at hP
          have hN8 := row_put HN7.out HBQ.out X1.out X2.out hP (fun k hk => ⟨trivial, by omega⟩)
          rw [show (b.f1.set j ⟨i.f0, i.f1, i.f2, 1⟩).length = b.f1.length by simp] at hN8
          have HN9 := Lib.hid hN8
          have HB9 := Lib.hid (HB7.out.setCell (p := ⟨g, q * 2 + 1, none⟩) hwg2 (.slice (some ⟨g5, 0, none⟩) b.f1.length cap5))
          have y2 := X2.out
          have y3 := X3.out
          clear hN8 hP q0 q2 q3 p2 p3
          go_wp2_with fail
          have hln := (Kd.N_reads' HN9.out).2.1
          have hC9 := (Kd.N_reads' HN9.out).2.2
          have CK := code_Check.calls (some ⟨g, 0, none⟩) c3 (x.set q ⟨b.f0, b.f1.set j ⟨i.f0, i.f1, i.f2, 1⟩⟩) _ _ _ _ hC9 (by rw [List.length_set]; omega) CC0.out
          rw [List.length_set] at CK
          have HCK := Lib.hid CK
          clear CK hC9 hln y2 y3
          refine HCK.out.mono ?_
          rintro e w9 ⟨rfl, hb9⟩
          have HBE := Lib.hid (below_then HB9.out HB9.out.size hb9)
          clear hb9
          go_wp2_with fail
          go_ret
          exact ⟨rfl, HBE.out⟩
        · by_cases o1 : i.f0 = 2
          · have hcp : chgP 1 i = (⟨i.f0, i.f1, -1, i.f3⟩ : S38) := by simp [chgP, o1]
            have CC0 := Lib.hid (changed_chk (i' := chgP 1 i) (fun a ha => (FO.out a ha).1) HR.out HBQ.out hHI.out chg_same (chg_ok HOI.out) (by obtain ⟨y0, hy0⟩ := HMI.out; exact fun y => chg_bad hy0 y))
            rw [hcp] at CC0
            have HP := Lib.hid (own_put (f := 2) (v := .int .i64 (-1)) (i' := ⟨i.f0, i.f1, -1, i.f3⟩) HR6.out hHI.out (by decide) (by simp))
            have HN7 := Lib.hid (Kd.N_mono (Kd.N_far (p := ⟨g5, j * 4 + 2, none⟩) HNW.out (fun k hk => by have := hk.2; show k ≠ g5; omega) (.int .i64 (-1))) (ok' := fun _ => True) (fun _ _ => trivial))
            have HB7 := Lib.hid (HBW.out.setCell (p := ⟨g5, j * 4 + 2, none⟩) hwg (.int .i64 (-1)))
            have hg7 := Heap.blk_far HGW.out (p := ⟨g5, j * 4 + 2, none⟩) (by show g ≠ g5; omega) (.int .i64 (-1))
            have x1 : (wr.setCell ⟨g5, j * 4 + 2, none⟩ (.int .i64 (-1))).cell? ⟨g, q * 2, none⟩ = some (.int .i64 b.f0) := by rw [Heap.blk_cell hg7]; rw [← Heap.blk_cell HGW.out]; exact HY0.out
            have x2 : (wr.setCell ⟨g5, j * 4 + 2, none⟩ (.int .i64 (-1))).cell? ⟨g, q * 2 + 1, none⟩ = some (.slice A1 b.f1.length c1) := by rw [Heap.blk_cell hg7]; rw [← Heap.blk_cell HGW.out]; exact HY1.out
            have x3 : (wr.setCell ⟨g5, j * 4 + 2, none⟩ (.int .i64 (-1))).frozen? ⟨g, q * 2 + 1, none⟩ = false := Heap.blk_frozen hg7 _
            have X1 := Lib.hid x1
            have X2 := Lib.hid x2
            have X3 := Lib.hid x3
            clear hcp hg7 x1 x2 x3
            have hh := hh0
            have t20 : (i.f0 == 11) = false := by simp [o0]
            have t21 : (i.f0 == 2) = true := by simp [o1]
            clear o0 o1
            go_upto_region 29 with fail
            generalize wr.setCell ⟨g5, j * 4 + 2, none⟩ (.int .i64 (-1)) = W7 at *
            have hP := HP.out
            rw [show b.f1.length = (b.f1.set j ⟨i.f0, i.f1, -1, i.f3⟩).length by simp] at hP
            have hN8 := row_put HN7.out HBQ.out X1.out X2.out hP (fun k hk => ⟨trivial, by omega⟩)
            rw [show (b.f1.set j ⟨i.f0, i.f1, -1, i.f3⟩).length = b.f1.length by simp] at hN8
            have HN9 := Lib.hid hN8
            have HB9 := Lib.hid (HB7.out.setCell (p := ⟨g, q * 2 + 1, none⟩) hwg2 (.slice (some ⟨g5, 0, none⟩) b.f1.length cap5))
            have y2 := X2.out
            have y3 := X3.out
            clear hN8 hP q0 q2 q3 p2 p3
            go_wp2_with fail
            have hln := (Kd.N_reads' HN9.out).2.1
            have hC9 := (Kd.N_reads' HN9.out).2.2
            have CK := code_Check.calls (some ⟨g, 0, none⟩) c3 (x.set q ⟨b.f0, b.f1.set j ⟨i.f0, i.f1, -1, i.f3⟩⟩) _ _ _ _ hC9 (by rw [List.length_set]; omega) CC0.out
            rw [List.length_set] at CK
            have HCK := Lib.hid CK
            clear CK hC9 hln y2 y3
            refine HCK.out.mono ?_
            rintro e w9 ⟨rfl, hb9⟩
            have HBE := Lib.hid (below_then HB9.out HB9.out.size hb9)
            clear hb9
            go_wp2_with fail
            go_ret
            exact ⟨rfl, HBE.out⟩
          · by_cases o2 : i.f0 = 4
            · have hcp : chgP 1 i = (⟨i.f0, i.f1, -1, i.f3⟩ : S38) := by simp [chgP, o2]
              have CC0 := Lib.hid (changed_chk (i' := chgP 1 i) (fun a ha => (FO.out a ha).1) HR.out HBQ.out hHI.out chg_same (chg_ok HOI.out) (by obtain ⟨y0, hy0⟩ := HMI.out; exact fun y => chg_bad hy0 y))
              rw [hcp] at CC0
              have HP := Lib.hid (own_put (f := 2) (v := .int .i64 (-1)) (i' := ⟨i.f0, i.f1, -1, i.f3⟩) HR6.out hHI.out (by decide) (by simp))
              have HN7 := Lib.hid (Kd.N_mono (Kd.N_far (p := ⟨g5, j * 4 + 2, none⟩) HNW.out (fun k hk => by have := hk.2; show k ≠ g5; omega) (.int .i64 (-1))) (ok' := fun _ => True) (fun _ _ => trivial))
              have HB7 := Lib.hid (HBW.out.setCell (p := ⟨g5, j * 4 + 2, none⟩) hwg (.int .i64 (-1)))
              have hg7 := Heap.blk_far HGW.out (p := ⟨g5, j * 4 + 2, none⟩) (by show g ≠ g5; omega) (.int .i64 (-1))
              have x1 : (wr.setCell ⟨g5, j * 4 + 2, none⟩ (.int .i64 (-1))).cell? ⟨g, q * 2, none⟩ = some (.int .i64 b.f0) := by rw [Heap.blk_cell hg7]; rw [← Heap.blk_cell HGW.out]; exact HY0.out
              have x2 : (wr.setCell ⟨g5, j * 4 + 2, none⟩ (.int .i64 (-1))).cell? ⟨g, q * 2 + 1, none⟩ = some (.slice A1 b.f1.length c1) := by rw [Heap.blk_cell hg7]; rw [← Heap.blk_cell HGW.out]; exact HY1.out
              have x3 : (wr.setCell ⟨g5, j * 4 + 2, none⟩ (.int .i64 (-1))).frozen? ⟨g, q * 2 + 1, none⟩ = false := Heap.blk_frozen hg7 _
              have X1 := Lib.hid x1
              have X2 := Lib.hid x2
              have X3 := Lib.hid x3
              clear hcp hg7 x1 x2 x3
              have hh := hh0
              have t20 : (i.f0 == 11) = false := by simp [o0]
              have t21 : (i.f0 == 2) = false := by simp [o1]
              have t22 : (i.f0 == 4) = true := by simp [o2]
              clear o0 o1 o2
              go_upto_region 29 with fail
              generalize wr.setCell ⟨g5, j * 4 + 2, none⟩ (.int .i64 (-1)) = W7 at *
              have hP := HP.out
              rw [show b.f1.length = (b.f1.set j ⟨i.f0, i.f1, -1, i.f3⟩).length by simp] at hP
              have hN8 := row_put HN7.out HBQ.out X1.out X2.out hP (fun k hk => ⟨trivial, by omega⟩)
              rw [show (b.f1.set j ⟨i.f0, i.f1, -1, i.f3⟩).length = b.f1.length by simp] at hN8
              have HN9 := Lib.hid hN8
              have HB9 := Lib.hid (HB7.out.setCell (p := ⟨g, q * 2 + 1, none⟩) hwg2 (.slice (some ⟨g5, 0, none⟩) b.f1.length cap5))
              have y2 := X2.out
              have y3 := X3.out
              clear hN8 hP q0 q2 q3 p2 p3
              go_wp2_with fail
              have hln := (Kd.N_reads' HN9.out).2.1
              have hC9 := (Kd.N_reads' HN9.out).2.2
              have CK := code_Check.calls (some ⟨g, 0, none⟩) c3 (x.set q ⟨b.f0, b.f1.set j ⟨i.f0, i.f1, -1, i.f3⟩⟩) _ _ _ _ hC9 (by rw [List.length_set]; omega) CC0.out
              rw [List.length_set] at CK
              have HCK := Lib.hid CK
              clear CK hC9 hln y2 y3
              refine HCK.out.mono ?_
              rintro e w9 ⟨rfl, hb9⟩
              have HBE := Lib.hid (below_then HB9.out HB9.out.size hb9)
              clear hb9
              go_wp2_with fail
              go_ret
              exact ⟨rfl, HBE.out⟩
            · have hcp : chgP 1 i = (⟨i.f0, i.f1, 1, i.f3⟩ : S38) := by simp [chgP, o0, o1, o2]
              have CC0 := Lib.hid (changed_chk (i' := chgP 1 i) (fun a ha => (FO.out a ha).1) HR.out HBQ.out hHI.out chg_same (chg_ok HOI.out) (by obtain ⟨y0, hy0⟩ := HMI.out; exact fun y => chg_bad hy0 y))
              rw [hcp] at CC0
              have HP := Lib.hid (own_put (f := 2) (v := .int .i64 1) (i' := ⟨i.f0, i.f1, 1, i.f3⟩) HR6.out hHI.out (by decide) (by simp))
              have HN7 := Lib.hid (Kd.N_mono (Kd.N_far (p := ⟨g5, j * 4 + 2, none⟩) HNW.out (fun k hk => by have := hk.2; show k ≠ g5; omega) (.int .i64 1)) (ok' := fun _ => True) (fun _ _ => trivial))
              have HB7 := Lib.hid (HBW.out.setCell (p := ⟨g5, j * 4 + 2, none⟩) hwg (.int .i64 1))
              have hg7 := Heap.blk_far HGW.out (p := ⟨g5, j * 4 + 2, none⟩) (by show g ≠ g5; omega) (.int .i64 1)
              have x1 : (wr.setCell ⟨g5, j * 4 + 2, none⟩ (.int .i64 1)).cell? ⟨g, q * 2, none⟩ = some (.int .i64 b.f0) := by rw [Heap.blk_cell hg7]; rw [← Heap.blk_cell HGW.out]; exact HY0.out
              have x2 : (wr.setCell ⟨g5, j * 4 + 2, none⟩ (.int .i64 1)).cell? ⟨g, q * 2 + 1, none⟩ = some (.slice A1 b.f1.length c1) := by rw [Heap.blk_cell hg7]; rw [← Heap.blk_cell HGW.out]; exact HY1.out
              have x3 : (wr.setCell ⟨g5, j * 4 + 2, none⟩ (.int .i64 1)).frozen? ⟨g, q * 2 + 1, none⟩ = false := Heap.blk_frozen hg7 _
              have X1 := Lib.hid x1
              have X2 := Lib.hid x2
              have X3 := Lib.hid x3
              clear hcp hg7 x1 x2 x3
              have hh := hh0
              have t20 : (i.f0 == 11) = false := by simp [o0]
              have t21 : (i.f0 == 2) = false := by simp [o1]
              have t22 : (i.f0 == 4) = false := by simp [o2]
              clear o0 o1 o2
              go_upto_region 29 with fail
              generalize wr.setCell ⟨g5, j * 4 + 2, none⟩ (.int .i64 1) = W7 at *
              have hP := HP.out
              rw [show b.f1.length = (b.f1.set j ⟨i.f0, i.f1, 1, i.f3⟩).length by simp] at hP
              have hN8 := row_put HN7.out HBQ.out X1.out X2.out hP (fun k hk => ⟨trivial, by omega⟩)
              rw [show (b.f1.set j ⟨i.f0, i.f1, 1, i.f3⟩).length = b.f1.length by simp] at hN8
              have HN9 := Lib.hid hN8
              have HB9 := Lib.hid (HB7.out.setCell (p := ⟨g, q * 2 + 1, none⟩) hwg2 (.slice (some ⟨g5, 0, none⟩) b.f1.length cap5))
              have y2 := X2.out
              have y3 := X3.out
              clear hN8 hP q0 q2 q3 p2 p3
              go_wp2_with fail
              have hln := (Kd.N_reads' HN9.out).2.1
              have hC9 := (Kd.N_reads' HN9.out).2.2
              have CK := code_Check.calls (some ⟨g, 0, none⟩) c3 (x.set q ⟨b.f0, b.f1.set j ⟨i.f0, i.f1, 1, i.f3⟩⟩) _ _ _ _ hC9 (by rw [List.length_set]; omega) CC0.out
              rw [List.length_set] at CK
              have HCK := Lib.hid CK
              clear CK hC9 hln y2 y3
              refine HCK.out.mono ?_
              rintro e w9 ⟨rfl, hb9⟩
              have HBE := Lib.hid (below_then HB9.out HB9.out.size hb9)
              clear hb9
              go_wp2_with fail
              go_ret
              exact ⟨rfl, HBE.out⟩
      · have hcp : chgP 2 i = (⟨i.f0, i.f1, i.f2, 17⟩ : S38) := by simp [chgP]
        have CC0 := Lib.hid (changed_chk (i' := chgP 2 i) (fun a ha => (FO.out a ha).1) HR.out HBQ.out hHI.out chg_same (chg_ok HOI.out) (by obtain ⟨y0, hy0⟩ := HMI.out; exact fun y => chg_bad hy0 y))
        rw [hcp] at CC0
        have HP := Lib.hid (own_put (f := 3) (v := .int .u64 17) (i' := ⟨i.f0, i.f1, i.f2, 17⟩) HR6.out hHI.out (by decide) (by simp))
        have HN7 := Lib.hid (Kd.N_mono (Kd.N_far (p := ⟨g5, j * 4 + 3, none⟩) HNW.out (fun k hk => by have := hk.2; show k ≠ g5; omega) (.int .u64 17)) (ok' := fun _ => True) (fun _ _ => trivial))
        have HB7 := Lib.hid (HBW.out.setCell (p := ⟨g5, j * 4 + 3, none⟩) hwg (.int .u64 17))
        have hg7 := Heap.blk_far HGW.out (p := ⟨g5, j * 4 + 3, none⟩) (by show g ≠ g5; omega) (.int .u64 17)
        have x1 : (wr.setCell ⟨g5, j * 4 + 3, none⟩ (.int .u64 17)).cell? ⟨g, q * 2, none⟩ = some (.int .i64 b.f0) := by rw [Heap.blk_cell hg7]; rw [← Heap.blk_cell HGW.out]; exact HY0.out
        have x2 : (wr.setCell ⟨g5, j * 4 + 3, none⟩ (.int .u64 17)).cell? ⟨g, q * 2 + 1, none⟩ = some (.slice A1 b.f1.length c1) := by rw [Heap.blk_cell hg7]; rw [← Heap.blk_cell HGW.out]; exact HY1.out
        have x3 : (wr.setCell ⟨g5, j * 4 + 3, none⟩ (.int .u64 17)).frozen? ⟨g, q * 2 + 1, none⟩ = false := Heap.blk_frozen hg7 _
        have X1 := Lib.hid x1
        have X2 := Lib.hid x2
        have X3 := Lib.hid x3
        clear hcp hg7 x1 x2 x3
        have hh := hh0
        go_upto_region 29 with fail
        generalize wr.setCell ⟨g5, j * 4 + 3, none⟩ (.int .u64 17) = W7 at *
        have hP := HP.out
        rw [show b.f1.length = (b.f1.set j ⟨i.f0, i.f1, i.f2, 17⟩).length by simp] at hP
        have hN8 := row_put HN7.out HBQ.out X1.out X2.out hP (fun k hk => ⟨trivial, by omega⟩)
        rw [show (b.f1.set j ⟨i.f0, i.f1, i.f2, 17⟩).length = b.f1.length by simp] at hN8
        have HN9 := Lib.hid hN8
        have HB9 := Lib.hid (HB7.out.setCell (p := ⟨g, q * 2 + 1, none⟩) hwg2 (.slice (some ⟨g5, 0, none⟩) b.f1.length cap5))
        have y2 := X2.out
        have y3 := X3.out
        clear hN8 hP q0 q2 q3 p2 p3
        go_wp2_with fail
        have hln := (Kd.N_reads' HN9.out).2.1
        have hC9 := (Kd.N_reads' HN9.out).2.2
        have CK := code_Check.calls (some ⟨g, 0, none⟩) c3 (x.set q ⟨b.f0, b.f1.set j ⟨i.f0, i.f1, i.f2, 17⟩⟩) _ _ _ _ hC9 (by rw [List.length_set]; omega) CC0.out
        rw [List.length_set] at CK
        have HCK := Lib.hid CK
        clear CK hC9 hln y2 y3
        refine HCK.out.mono ?_
        rintro e w9 ⟨rfl, hb9⟩
        have HBE := Lib.hid (below_then HB9.out HB9.out.size hb9)
        clear hb9
        go_wp2_with fail
        go_ret
        exact ⟨rfl, HBE.out⟩
end Go.Proofs.YtkiamiphmndmcaaDoor.PCodes

/- The walk of CodeJumps: for any bytes the law answers true; its premises are what the row gives of its arguments. -/
import Derived.Test.YtkiamiphmndmcaaDoorOwn
import Derived.Test.YtkiamiphmndmcaaDoorJumpsP
import Derived.Test.YtkiamiphmndmcaaDoorKdMore
namespace Go.Proofs.YtkiamiphmndmcaaDoor.PCodes
open Go Go.RowKit Go.Proofs.YtkiamiphmndmcaaDoor.Heap Go.Proofs.YtkiamiphmndmcaaDoor.Own Go.Proofs.YtkiamiphmndmcaaDoorW.PrintWords Go.Proofs.YtkiamiphmndmcaaDoorW.PrintMore
attribute [local go_sem] Own.max2_int Own.min2_int Own.max_two Own.min_two
theorem shown_yes : eddywheellaw11_shown.f 5 = some true := by decide +kernel
def jPre (xs : List Int) (j : Nat) : List (S38) := ⟨1, 0, 0, 10⟩ :: (xs.take j).map jIns
theorem jPre_next {xs : List Int} {j : Nat} {x : Int} (h : xs[j]? = some x) : jPre xs (j + 1) = jPre xs j ++ [jIns x] := by
  simp [jPre, List.take_add_one, h]
theorem jPre_all (xs : List Int) (m : Nat) (h : xs.length = m) : jPre xs m ++ [⟨16, 0, 0, 0⟩] = jRow xs := by
  subst h; simp [jPre, jRow]
theorem infoIns : (Tryd.prog.info? 38).map (fun i => (i.zero, i.size, i.bytes)) = some (some (.agg #[(.int .u8 0), (.int .i64 0), (.int .i64 0), (.int .u64 0)]), 4, 32) := by kernel_rfl
set_option maxRecDepth 100000 in
set_option maxHeartbeats 4000000 in
theorem walkJumps (A : Option Addr) (len cap : Nat) (zs : List Int) (w : World) (hz : IsRow .u8 w A len cap zs) (hy : len * 1 ≤ 140737488351232) :
    Calls Tryd.prog 7 #[.slice A len cap] w fun e w' => e = .returned (.bool true) ∧ Below w.heap.size w w' := by
  obtain ⟨m, hmin, m1, m2, _⟩ := min_nat len 12 12 rfl
  have hlc : len ≤ cap := by rcases hz with ⟨_, rfl, rfl, _⟩ | ⟨_, _, h, _⟩ <;> omega
  have hlz : (zs.take m).length = m := by
    rcases hz with ⟨_, rfl, rfl, rfl⟩ | ⟨_, _, h, _, h2, _⟩
    · simp; omega
    · simp; omega
  have hsrc := hz.src m m1 cap
  have hwf : ∀ (j : Nat) (x : Int), (zs.take m)[j]? = some x → 0 ≤ x ∧ x < 256 := by
    intro j x hj
    rcases hz with ⟨_, _, _, rfl⟩ | ⟨_, _, _, _, _, _, h2⟩
    · simp at hj
    · have := h2 x (List.mem_of_mem_take (List.mem_of_getElem? hj))
      have h1 : IntKind.u8.min = 0 := by decide
      have h3 : IntKind.u8.max = 255 := by decide
      simp only [Lit.wf, h1, h3, Bool.and_eq_true, decide_eq_true_eq] at this
      omega
  generalize zs.take m = xs at *
  have HWF := Lib.hid hwf
  have HLZ := Lib.hid hlz
  have HSRC := Lib.hid hsrc
  have HD := Lib.hid (jDepth xs (by omega))
  have HC := Lib.hid (jCheck xs (by omega))
  clear hz hwf hlz hsrc hy
  go_enter Tryd.func7, Tryd.ntmps7
  go_wp2_with fail
  refine (eddywheellaw11_shown.calls 5 true _ shown_yes).mono ?_
  rintro e w1 ⟨rfl, hb1⟩
  go_wp2_with fail
  have hL := Lib2.R_blk (W := w1.alloc (.cells #[.int .u8 1, .int .i64 0, .int .i64 0, .int .u64 10] 38)) (g := w1.heap.size) (base := w.heap.size) (xs := [(⟨1, 0, 0, 10⟩ : S38)]) k38 (ok := fun _ => True) (okp := fun _ => False) (Heap.blk_new rfl) hb1.size (Reps.c4 (k38_mkM _ _ _ ⟨1, 0, 0, 10⟩) (Reps.none _ _)) (fun _ h => h.elim) trivial (by simp)
  have hb2 := below_alloc hb1 (.cells #[.int .u8 1, .int .i64 0, .int .i64 0, .int .u64 10] 38)
  have HL := Lib.hid hL
  have HB2 := Lib.hid hb2
  clear hL hb2 hb1
  have bm : (m : Int) ≤ 12 := by omega
  clear hmin
  go_loopw [5, 6, 26] (fun l b i wr => ∃ j : Nat, i = .int .i64 j ∧ j ≤ m ∧ ∃ bb : Bool, b = .bool bb ∧ Hid (jOk (m + 2) (j + 1) bb (xs.drop j) = jOk (m + 2) 1 true xs) ∧ Hid (Kd.R k38 38 wr w.heap.size (fun _ => True) l (jPre xs j)) ∧ Hid (Below w.heap.size w wr)) (fun _ _ i _ => m - (intOf i).toNat)
  case atStart => exact ⟨0, rfl, Nat.zero_le _, true, rfl, Lib.hid rfl, HL, HB2⟩
  case round =>
    obtain ⟨j, rfl, hj, bb, rfl, HOK, HR, HB⟩ := hrel
    clear HL HB2
    by_cases hlt : j < m
    · obtain ⟨b, o, rfl, hbl, hcell⟩ := (HSRC.out.grow (Chg.of_below HB.out)).pl (by omega) (by decide)
      have hlz := HLZ.out
      obtain ⟨x, hx⟩ : ∃ x, xs[j]? = some x := ⟨_, List.getElem?_eq_getElem (by omega)⟩
      have hq : wr.cell? ⟨b, o + j, none⟩ = some (.int .u8 x) := hcell _ _ (by simp [Heap.nums, hx])
      obtain ⟨x0, x1⟩ := HWF.out j x hx
      have hdrop : xs.drop j = x :: xs.drop (j + 1) := by
        rw [List.drop_eq_getElem_cons (by omega)]; congr 1; exact (List.getElem?_eq_some_iff.1 hx).2
      have hok := HOK.out
      rw [hdrop] at hok
      simp only [jOk] at hok
      have HOK1 := Lib.hid hok
      have HN := Lib.hid (jPre_next hx)
      have hpl : (jPre xs j).length ≤ 20 := by simp [jPre]; omega
      clear hcell hx hdrop hok hlz HOK
      have bj0 : (0 : Int) ≤ (j : Int) := Int.natCast_nonneg _
      have bj1 : (j : Int) < (m : Int) := by omega
      go_upto_region 9 with (at_builtin; refine Kd.R_append k38 (w0 := w) w.heap.size rfl (.tmp 31) (.tmp 36) 29 38 (.agg #[(.int .u8 0), (.int .i64 0), (.int .i64 0), (.int .u64 0)]) 32 rfl Tryd.underlying29 infoIns rfl (by decide) (by omega) _ (jPre xs j) (jIns x) [.int .u8 9, .int .i64 (x % 16), .int .i64 0, .int .u64 0] (fun _ => True) (fun _ => False) rfl rfl (k38_mkM _ _ _ (jIns x)) (fun _ hk => hk.elim) (fun _ _ => trivial) HR.out HB.out HB.out.size (by omega) ?_; intro v1 w3 hr3 hb3 _ _; rw [← HN.out] at hr3; have HR3 := Lib.hid hr3; have HB3 := Lib.hid hb3; clear hr3 hb3)
      have hk : ∀ c : Bool, (bb && decide (((j : Int) + 1) < x % 16) && decide (x % 16 < (m : Int) + 2)) = c → Hid (jOk (m + 2) (j + 1 + 1) c (xs.drop (j + 1)) = jOk (m + 2) 1 true xs) := fun c hc => Lib.hid (by
        have h := HOK1.out
        rw [show ((j + 1 : Nat) : Int) = (j : Int) + 1 by omega, show ((m + 2 : Nat) : Int) = (m : Int) + 2 by omega, hc] at h
        exact h)
      have HK := Lib.hid hk
      clear hk hq
      by_cases h1 : (j : Int) + 1 < x % 16 <;> by_cases h2 : x % 16 < (m : Int) + 2 <;> cases bb
      all_goals
        have HK1 := HK.out _ rfl
        first | rw [decide_eq_true h1] at HK1 | rw [decide_eq_false h1] at HK1
        first | rw [decide_eq_true h2] at HK1 | rw [decide_eq_false h2] at HK1
        first | (have t2 : decide (x % 16 > (j : Int) + 1) = true := decide_eq_true h1) | (have t2 : decide (x % 16 > (j : Int) + 1) = false := decide_eq_false h1)
        first | (have t3 : decide (x % 16 < (m : Int) + 2) = true := decide_eq_true h2) | (have t3 : decide (x % 16 < (m : Int) + 2) = false := decide_eq_false h2)
        clear h1 h2
        go_wp2_with fail
        go_roundw
        case rel => exact ⟨j + 1, by go_num, by omega, _, rfl, HK1, HR3, HB3⟩
        case measure => simp [intOf]; omega
    · obtain rfl : j = m := by omega
      have hall := jPre_all xs j HLZ.out
      have hok := HOK.out
      rw [List.drop_of_length_le (by have := HLZ.out; omega)] at hok
      simp only [jOk] at hok
      have hlz := HLZ.out
      have hd := HD.out
      have hc := HC.out
      rw [hlz, ← hok] at hd hc
      have DC := Lib.hid hd
      have CC := Lib.hid hc
      have HALL := Lib.hid hall
      have hpl : (jPre xs j).length ≤ 20 := by simp [jPre]; omega
      clear hall hok hlz hd hc HD HC HOK hlt hj
      go_upto_region 12 with (at_builtin; refine Kd.R_append k38 (w0 := w) w.heap.size rfl (.tmp 57) (.tmp 59) 29 38 (.agg #[(.int .u8 0), (.int .i64 0), (.int .i64 0), (.int .u64 0)]) 32 rfl Tryd.underlying29 infoIns rfl (by decide) (by omega) _ (jPre xs j) ⟨16, 0, 0, 0⟩ [.int .u8 16, .int .i64 0, .int .i64 0, .int .u64 0] (fun _ => True) (fun _ => False) rfl rfl (k38_mkM _ _ _ ⟨16, 0, 0, 0⟩) (fun _ hk => hk.elim) (fun _ _ => trivial) HR.out HB.out HB.out.size (by omega) ?_; intro v1 w3 hr3 hb3 _ _; rw [HALL.out] at hr3; have HR3 := Lib.hid hr3; have HB3 := Lib.hid hb3; clear hr3 hb3)
      obtain ⟨A5, c5, hv5, hl5, hC5⟩ := Kd.R_reads HR3.out
      subst hv5
      have HC5 := Lib.hid hC5
      have hrl : (jRow xs).length = j + 2 := by rw [jRow_len, HLZ.out]
      have HRL := Lib.hid hrl
      clear hC5 hrl HR
      cases bb
      all_goals
        first | (have CC0 := CC.out; rw [if_pos rfl] at CC0) | (have CC0 := CC.out; rw [if_neg (by simp)] at CC0)
        first | (have DC0 := DC.out; rw [if_pos rfl] at DC0) | (have DC0 := DC.out; rw [if_neg (by simp)] at DC0)
        have CC1 := Lib.hid CC0
        have DC1 := Lib.hid DC0
        clear CC DC CC0 DC0
        go_wp2_with fail
        refine (code_Check.calls _ 1 [⟨0, jRow xs⟩] _ _ _ _ (Lib2.C_blk k31 (xs := [(⟨0, jRow xs⟩ : S31)]) (Heap.blk_new rfl) (Reps.c2 (k31_mk _ ⟨0, jRow xs⟩ hl5 (Kd.C_alloc HC5.out _)) (Reps.none _ _)) (by simp)) (by simp) CC1.out).mono ?_
        rintro e w4 ⟨rfl, hb4⟩
        have hb34 := below_then (below_alloc (Below.refl _ w3) _) (by simp) hb4
        have HC6 := Lib.hid (Kd.C_below HC5.out hb34)
        have HB6 := Lib.hid (below_then HB3.out HB3.out.size hb34)
        clear hb4 hb34 HC5 HB3 HR3
        go_wp2_with fail
        refine (code_Depth.calls 0 A5 c5 (jRow xs) _ _ _ HC6.out hl5 DC1.out).mono ?_
        rintro e w7 ⟨v7, rfl, hR7, hb7⟩
        have HB7 := Lib.hid (below_then HB6.out HB6.out.size hb7)
        clear hb7 HB6 HC6
        obtain ⟨A7, c7, hv7, hl7, hC7⟩ := Kd.R_reads hR7
        subst hv7
        have HC7 := Lib.hid hC7
        clear hC7 hR7
        go_wp2_with fail
      · go_loopw [80] (fun i wx => i = .int .i64 0 ∧ wx = w7) (fun i _ => 0)
        case atStart => exact ⟨rfl, rfl⟩
        case round =>
          obtain ⟨rfl, rfl⟩ := hrel
          go_wp2_with fail
          go_ret
          exact ⟨rfl, HB7.out⟩
      · go_loopw [80] (fun i wx => ∃ k : Nat, i = .int .i64 k ∧ k ≤ j + 2 ∧ wx = w7) (fun i _ => j + 2 - (intOf i).toNat)
        case atStart => exact ⟨0, rfl, Nat.zero_le _, rfl⟩
        case round =>
          obtain ⟨k, rfl, hk, rfl⟩ := hrel
          by_cases hlt : k < j + 2
          · obtain ⟨ad, hA, hc⟩ := Kd.at_int HC7.out (k : Int) (by omega) (by simp; omega)
            cases hA
            have hv : rd (List.replicate (j + 2) 0) (k : Int) = 0 := by
              unfold rd; rw [Int.toNat_natCast, List.getD_eq_getElem?_getD, List.getElem?_replicate_of_lt hlt]; rfl
            rw [hv, Int.toNat_natCast] at hc
            have bk0 : (0 : Int) ≤ (k : Int) := Int.natCast_nonneg _
            have bk1 : (k : Int) < (j : Int) + 2 := by omega
            clear hv hl7
            go_wp2_with fail
            go_roundw
            case rel => exact ⟨k + 1, by go_num, by omega, trivial⟩
            case measure => simp [intOf]; omega
          · obtain rfl : k = j + 2 := by omega
            clear hl7
            go_wp2_with fail
            go_ret
            exact ⟨rfl, HB7.out⟩
end Go.Proofs.YtkiamiphmndmcaaDoor.PCodes

/- The walk of ReadDeep: for any numbers the law answers true; its premise is what the row lays. -/
import Derived.Test.YthfbkhjcnfjmmaaDoorReadQ3
import Derived.Test.YthfbkhjcnfjmmaaDoorReadW
import Derived.Test.YthfbkhjcnfjmmaaDoorLexVars
import Derived.Test.YthfbkhjcnfjmmaaDoorRows
namespace Go.Proofs.YthfbkhjcnfjmmaaDoor.ReadM
open Go Go.RowKit Go.Proofs.YthfbkhjcnfjmmaaDoor.Heap Go.Proofs.YthfbkhjcnfjmmaaDoor.Own Go.Proofs.YthfbkhjcnfjmmaaDoor.ReadP Go.Proofs.YthfbkhjcnfjmmaaDoor.LexP
open Go.Proofs.YthfbkhjcnfjmmaaDoorW.PrintWords (Aside0 below_then below_alloc)
/-- the text that opens, of so many bytes -/
def dS (q j : Nat) : ByteArray := ⟨((List.range j).map fun i => if i < q then (39 : UInt8) else 40).toArray⟩
def cS (j : Nat) : ByteArray := ⟨(List.replicate j (41 : UInt8)).toArray⟩
theorem dS_zero (q : Nat) : (⟨#[]⟩ : ByteArray) = dS q 0 := rfl
theorem dS_one (q j : Nat) (h : j < q) : dS q j ++ (⟨#[39]⟩ : ByteArray) = dS q (j + 1) := by
  unfold dS
  apply ByteArray.ext
  simp [List.range_succ, h]
theorem dS_two (q j : Nat) (h : ¬ j < q) : dS q j ++ (⟨#[40]⟩ : ByteArray) = dS q (j + 1) := by
  unfold dS
  apply ByteArray.ext
  simp [List.range_succ, h]
theorem dS_size (q j : Nat) : (dS q j).size = j := by
  rw [Lib.size_eq]; simp [dS]
theorem cS_succ (j : Nat) : cS j ++ (⟨#[41]⟩ : ByteArray) = cS (j + 1) := by
  unfold cS
  apply ByteArray.ext
  simp [-List.toArray_replicate, List.replicate_succ']
theorem cS_size (j : Nat) : (cS j).size = j := by
  rw [Lib.size_eq]; simp [cS]
theorem dS_data (k q : Nat) (h : q ≤ k) : (dS q k).data.toList = opX (deepB k q) := by
  unfold dS opX deepB
  simp only [List.map_append, List.map_replicate]
  apply List.ext_getElem
  · simp; omega
  · intro i h1 h2
    simp at h1
    rw [List.getElem_append]
    by_cases hi : i < q
    · simp [hi]
    · simp [hi]
theorem dS_x (k q : Nat) (h : q ≤ k) : ((dS q k ++ (⟨#[120]⟩ : ByteArray)) ++ cS (k - q)).data.toList = opX (deepB k q) ++ 120 :: List.replicate (k - q) 41 := by
  rw [← dS_data k q h]
  simp [cS]
attribute [local go_sem] max2_int min2_int max_two min_two
set_option maxHeartbeats 2000000 in
set_option maxRecDepth 100000 in
theorem deep_walk (n u : Int) (k q : Nat) (w : World) (hV : Go.Proofs.YthfbkhjcnfjmmaaDoor.LexC.Vars w) (hn : 0 ≤ n) (_hn2 : n ≤ 255) (hu : 0 ≤ u) (hu2 : u ≤ 255) (hk : n % 61 = (k : Int)) (hq : u % ((k : Int) + 1) = (q : Int)) :
    Calls Tryd.prog 5 #[.int .u8 n, .int .u8 u] w fun e w' => e = .returned (.bool true) ∧ Below w.heap.size w w' := by
  have hk60 : k ≤ 60 := by omega
  have hqk : q ≤ k := by have := Int.emod_lt_of_pos u (show (0 : Int) < (k : Int) + 1 by omega); omega
  have m1 : n.tmod 61 = (k : Int) := by rw [Int.tmod_eq_emod_of_nonneg hn]; exact hk
  have m2 : u.tmod ((k : Int) + 1) = (q : Int) := by rw [Int.tmod_eq_emod_of_nonneg hu]; exact hq
  replace hV := Aside0.mk hV
  clear hk hq
  go_enter Tryd.func5, Tryd.ntmps5
  go_wp2_with fail
  refine (shown_calls _ hV.out).mono ?_
  rintro e w1 ⟨rfl, hb⟩
  have HB := Aside0.mk hb
  have V1 := Aside0.mk (hV.out.below HB.out (Nat.le_refl _))
  clear hb
  go_wp2
  go_quiet (fail)
  have HBq := Aside0.mk (below_draw HB.out nq)
  have VQ := Aside0.mk (hV.out.below HBq.out (Nat.le_refl _))
  clear HB V1
  generalize hwq : w1.drewN nq = wq at *
  clear hwq
  go_wp2
  go_loopw [8, 36] (fun s i wr => ∃ j : Nat, i = .int .i64 j ∧ s = .string (dS q j) ∧ j ≤ k ∧ Aside0 (Below wq.heap.size wq wr)) (fun _ i _ => k - (intOf6 i).toNat)
  case atStart => exact ⟨0, rfl, rfl, Nat.zero_le _, ⟨Below.refl _ _⟩⟩
  case round =>
    obtain ⟨j, rfl, rfl, hj, HBL⟩ := hrel
    have hz := dS_size q j
    by_cases hjk : j < k
    · have e0 : decide ((j : Int) < (k : Int)) = true := decide_eq_true (by omega)
      have e0' : decide (j < k) = true := decide_eq_true hjk
      by_cases hjq : j < q
      · have e1 : decide ((j : Int) < (q : Int)) = true := decide_eq_true (by omega)
        have e1' : decide (j < q) = true := decide_eq_true hjq
        have e2 := dS_one q j hjq
        go_wp2
        go_roundw
        case rel => exact ⟨j + 1, by simp, by simp, by omega, ⟨by repeat (first | exact HBL.out | apply below_alloc | apply Go.Proofs.YthfbkhjcnfjmmaaDoorW.PrintWords.pw_below_drewN)⟩⟩
        case measure => simp [intOf6]; omega
      · have e1 : decide ((j : Int) < (q : Int)) = false := decide_eq_false (by omega)
        have e1' : decide (j < q) = false := decide_eq_false hjq
        have e2 := dS_two q j hjq
        go_wp2
        go_roundw
        case rel => exact ⟨j + 1, by simp, by simp, by omega, ⟨by repeat (first | exact HBL.out | apply below_alloc | apply Go.Proofs.YthfbkhjcnfjmmaaDoorW.PrintWords.pw_below_drewN)⟩⟩
        case measure => simp [intOf6]; omega
    · have e0 : decide ((j : Int) < (k : Int)) = false := decide_eq_false (by omega)
      have e0' : decide (j < k) = false := decide_eq_false hjk
      obtain rfl : j = k := by omega
      have hz2 : (dS q j).size = j := dS_size q j
      clear e0 e0' hjk hz
      have HB2 := Aside0.mk (below_then HBq.out HBq.out.size HBL.out)
      have V2 := Aside0.mk (hV.out.below HB2.out (Nat.le_refl _))
      clear HBL HBq VQ
      obtain ⟨m, hm⟩ : ∃ m, m = j - q := ⟨_, rfl⟩
      have s1 : (j : Int) - (q : Int) = (m : Int) := by omega
      go_wp2
      go_loopw [10, 50] (fun s i w3 => ∃ c : Nat, i = .int .i64 c ∧ s = .string (cS c) ∧ c ≤ m ∧ Aside0 (Below wr.heap.size wr w3)) (fun _ i _ => m - (intOf6 i).toNat)
      case atStart => exact ⟨0, rfl, rfl, Nat.zero_le _, ⟨Below.refl _ _⟩⟩
      case round =>
        obtain ⟨c, rfl, rfl, hc, HBL⟩ := hrel
        have hz := cS_size c
        by_cases hcm : c < m
        · have e0 : decide ((c : Int) < (m : Int)) = true := decide_eq_true (by omega)
          have e0' : decide (c < m) = true := decide_eq_true hcm
          have e2 := cS_succ c
          go_wp2
          go_roundw
          case rel => exact ⟨c + 1, by simp, by simp, by omega, ⟨by repeat (first | exact HBL.out | apply below_alloc | apply Go.Proofs.YthfbkhjcnfjmmaaDoorW.PrintWords.pw_below_drewN)⟩⟩
          case measure => simp [intOf6]; omega
        · have e0 : decide ((c : Int) < (m : Int)) = false := decide_eq_false (by omega)
          have e0' : decide (c < m) = false := decide_eq_false hcm
          obtain rfl : c = m := by omega
          clear e0 e0' hcm
          have HB3 := Aside0.mk (below_then HB2.out HB2.out.size HBL.out)
          have V3 := Aside0.mk (hV.out.below HB3.out (Nat.le_refl _))
          clear HBL HB2 V2
          -- TAIL
          have hc60 : c ≤ 60 := by omega
          have D1 := fun w hV => read_calls (dS q j) w hV
          have D2 := fun w hV => read_calls ((dS q j ++ (⟨#[120]⟩ : ByteArray)) ++ cS c) w hV
          have D3 := fun w hV => read_calls (⟨#[120, 41]⟩ : ByteArray) w hV
          rw [dS_data j q hqk] at D1
          rw [hm, dS_x j q hqk] at D2
          rw [show (⟨#[120, 41]⟩ : ByteArray).data.toList = [120, 41] from rfl, deep_x] at D3
          rw [← hm] at D2
          have x1 : (dS q j ++ (⟨#[120]⟩ : ByteArray)).size = j + 1 := by rw [ByteArray.size_append, hz2]; rfl
          by_cases h50 : 50 < j
          · have E1 := deep_big j q hqk h50 hk60 [] [] rfl (by simp)
            have E2 := deep_big j q hqk h50 hk60 (120 :: List.replicate (j - q) 41) _ (lex_x _ _) (by simp; omega)
            rw [List.append_nil] at E1
            rw [E1] at D1
            rw [← hm] at E2
            rw [E2] at D2
            simp only [ReadPost] at D1 D2 D3
            have FS1 := Lib.hid D1
            have FS2 := Lib.hid D2
            have FS3 := Lib.hid D3
            clear D1 D2 D3 E1 E2
            have HM := Lib.hid hm
            clear hm
            have b1 : decide (50 < (j : Int)) = true := decide_eq_true (by omega)
            have b1' : decide (50 < j) = true := decide_eq_true h50
            clear h50
            go_wp2_with fail
            refine (FS1.out _ V3.out).mono ?_
            rintro e w4 ⟨⟨base1, hbl1, rfl⟩, hb⟩
            have HB4 := Aside0.mk (below_then HB3.out HB3.out.size hb)
            have V4 := Aside0.mk (hV.out.below HB4.out (Nat.le_refl _))
            clear hb hbl1
            go_wp2_with fail
            refine (FS2.out _ V4.out).mono ?_
            rintro e w5 ⟨⟨base2, hbl2, rfl⟩, hb⟩
            have HB5 := Aside0.mk (below_then HB4.out HB4.out.size hb)
            have V5 := Aside0.mk (hV.out.below HB5.out (Nat.le_refl _))
            clear hb hbl2
            go_wp2_with fail
            refine (FS3.out _ V5.out).mono ?_
            rintro e w6 ⟨⟨base3, hbl3, rfl⟩, hb⟩
            have HB6 := Aside0.mk (below_then HB5.out HB5.out.size hb)
            have V6 := Aside0.mk (hV.out.below HB6.out (Nat.le_refl _))
            clear hb hbl3
            go_wp2_with fail
            go_ret
            exact ⟨rfl, HB6.out⟩
          obtain ⟨row, tops, E2, hr1, hr2⟩ := deep_ok j q hqk (by omega)
          rw [← hm] at E2
          rw [E2] at D2
          simp only [ReadPost] at D2 D3
          have FS2 := Lib.hid D2
          have FS3 := Lib.hid D3
          clear D2 D3 E2
          have HM := Lib.hid hm
          clear hm
          have b1 : decide (50 < (j : Int)) = false := decide_eq_false (by omega)
          have b1' : decide (50 < j) = false := decide_eq_false h50
          have hj50 : j ≤ 50 := by omega
          clear h50
          by_cases h0 : j = 0
          · subst h0
            obtain rfl : q = 0 := by omega
            rw [deep_zero] at D1
            simp only [ReadPost] at D1
            have FS1 := Lib.hid D1
            clear D1
            go_wp2_with fail
            refine (FS1.out _ V3.out).mono ?_
            rintro e w4 ⟨⟨base1, hbl1, v0, v1, rs, rfl, hrs, hN, hT, hI, _⟩, hb⟩
            have HB4 := Aside0.mk (below_then HB3.out HB3.out.size hb)
            have V4 := Aside0.mk (hV.out.below HB4.out (Nat.le_refl _))
            obtain ⟨Ar1, cr1, rfl, _, _, _⟩ := Nodes.rn hN hI
            obtain ⟨At1, ct1, rfl, _, _⟩ := Ints.ri hT
            have hl1 : rs.length = 0 := by have := congrArg List.length hrs; simpa using this
            rw [hl1]
            clear hb hbl1 hrs hN hT hI hl1
            go_wp2_with fail
            refine (FS2.out _ V4.out).mono ?_
            rintro e w5 ⟨⟨base2, hbl2, v0, v1, rs, rfl, hrs, hN, hT, hI, _⟩, hb⟩
            have HB5 := Aside0.mk (below_then HB4.out HB4.out.size hb)
            have V5 := Aside0.mk (hV.out.below HB5.out (Nat.le_refl _))
            obtain ⟨Ar2, cr2, rfl, _, _, _⟩ := Nodes.rn hN hI
            obtain ⟨At2, ct2, rfl, _, _⟩ := Ints.ri hT
            have hl2 : rs.length = 1 + 0 + 0 := by rw [← hr1, ← hrs, List.length_map]
            rw [hl2, hr2]
            clear hb hbl2 hrs hN hT hI hl2
            go_wp2_with fail
            refine (FS3.out _ V5.out).mono ?_
            rintro e w6 ⟨⟨base3, hbl3, rfl⟩, hb⟩
            have HB6 := Aside0.mk (below_then HB5.out HB5.out.size hb)
            have V6 := Aside0.mk (hV.out.below HB6.out (Nat.le_refl _))
            clear hb hbl3
            go_wp2_with fail
            go_ret
            exact ⟨rfl, HB6.out⟩
          have E1 := deep_err j q hqk (by omega) (by omega)
          have f1 : ((j : Int) == 0) = false := by simp; omega
          have f1' : (j == 0) = false := by simpa using h0
          obtain ⟨p, hp⟩ : ∃ p, p = j - 1 := ⟨_, rfl⟩
          have f3 : (j : Int) - 1 = (p : Int) := by omega
          have f2 : ¬ ((p : Int) < 0) := by omega
          rw [← hp] at E1
          clear hp
          by_cases hqj : q = j
          · rw [if_pos hqj] at E1
            rw [E1] at D1
            simp only [ReadPost] at D1
            have FS1 := Lib.hid D1
            clear D1 E1
            have g1 : ((q : Int) == (j : Int)) = true := by simp; omega
            have g1' : (q == j) = true := by simpa using hqj
            clear hqj h0
            go_wp2_with fail
            refine (FS1.out _ V3.out).mono ?_
            rintro e w4 ⟨⟨base1, hbl1, rfl⟩, hb⟩
            have HB4 := Aside0.mk (below_then HB3.out HB3.out.size hb)
            have V4 := Aside0.mk (hV.out.below HB4.out (Nat.le_refl _))
            clear hb hbl1
            go_wp2_with fail
            refine (FS2.out _ V4.out).mono ?_
            rintro e w5 ⟨⟨base2, hbl2, v0, v1, rs, rfl, hrs, hN, hT, hI, _⟩, hb⟩
            have HB5 := Aside0.mk (below_then HB4.out HB4.out.size hb)
            have V5 := Aside0.mk (hV.out.below HB5.out (Nat.le_refl _))
            obtain ⟨Ar2, cr2, rfl, _, _, _⟩ := Nodes.rn hN hI
            obtain ⟨At2, ct2, rfl, _, _⟩ := Ints.ri hT
            have hl2 : rs.length = 1 + j + q := by rw [← hr1, ← hrs, List.length_map]
            rw [hl2, hr2]
            clear hb hbl2 hrs hN hT hI hl2
            go_wp2_with fail
            refine (FS3.out _ V5.out).mono ?_
            rintro e w6 ⟨⟨base3, hbl3, rfl⟩, hb⟩
            have HB6 := Aside0.mk (below_then HB5.out HB5.out.size hb)
            have V6 := Aside0.mk (hV.out.below HB6.out (Nat.le_refl _))
            clear hb hbl3
            go_wp2_with fail
            go_ret
            exact ⟨rfl, HB6.out⟩
          · rw [if_neg hqj] at E1
            rw [E1] at D1
            simp only [ReadPost] at D1
            have FS1 := Lib.hid D1
            clear D1 E1
            have g1 : ((q : Int) == (j : Int)) = false := by simp; omega
            have g1' : (q == j) = false := by simpa using hqj
            clear hqj h0
            go_wp2_with fail
            refine (FS1.out _ V3.out).mono ?_
            rintro e w4 ⟨⟨base1, hbl1, rfl⟩, hb⟩
            have HB4 := Aside0.mk (below_then HB3.out HB3.out.size hb)
            have V4 := Aside0.mk (hV.out.below HB4.out (Nat.le_refl _))
            clear hb hbl1
            go_wp2_with fail
            refine (FS2.out _ V4.out).mono ?_
            rintro e w5 ⟨⟨base2, hbl2, v0, v1, rs, rfl, hrs, hN, hT, hI, _⟩, hb⟩
            have HB5 := Aside0.mk (below_then HB4.out HB4.out.size hb)
            have V5 := Aside0.mk (hV.out.below HB5.out (Nat.le_refl _))
            obtain ⟨Ar2, cr2, rfl, _, _, _⟩ := Nodes.rn hN hI
            obtain ⟨At2, ct2, rfl, _, _⟩ := Ints.ri hT
            have hl2 : rs.length = 1 + j + q := by rw [← hr1, ← hrs, List.length_map]
            rw [hl2, hr2]
            clear hb hbl2 hrs hN hT hI hl2
            go_wp2_with fail
            refine (FS3.out _ V5.out).mono ?_
            rintro e w6 ⟨⟨base3, hbl3, rfl⟩, hb⟩
            have HB6 := Aside0.mk (below_then HB5.out HB5.out.size hb)
            have V6 := Aside0.mk (hV.out.below HB6.out (Nat.le_refl _))
            clear hb hbl3
            go_wp2_with fail
            go_ret
            exact ⟨rfl, HB6.out⟩
theorem walkReadDeep (n u : Int) (w : World) (hL : laidMetH Tryd.prog Rows.readDeepRow.laid w) (hn : (Lit.int .u8 n).wf = true) (hu : (Lit.int .u8 u).wf = true) :
    Calls Tryd.prog 5 #[.int .u8 n, .int .u8 u] w fun e w' => e = .returned (.bool true) ∧ Below w.heap.size w w' := by
  have hV := Go.Proofs.YthfbkhjcnfjmmaaDoor.LexC.vars_of hL (by kernel_rfl) (by kernel_rfl)
  have e8 : IntKind.u8.min = 0 ∧ IntKind.u8.max = 255 := by decide
  simp only [Lit.wf, e8.1, e8.2, Bool.and_eq_true, decide_eq_true_eq] at hn hu
  have h1 : n % 61 = ((n % 61).toNat : Int) := by omega
  have h2 := Int.emod_nonneg u (show ((n % 61).toNat : Int) + 1 ≠ 0 by omega)
  exact deep_walk n u (n % 61).toNat (u % (((n % 61).toNat : Int) + 1)).toNat w hV hn.1 hn.2 hu.1 hu.2 h1 (Int.toNat_of_nonneg h2).symm
end Go.Proofs.YthfbkhjcnfjmmaaDoor.ReadM

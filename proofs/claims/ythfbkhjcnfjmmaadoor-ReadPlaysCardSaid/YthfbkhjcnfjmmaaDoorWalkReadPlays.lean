/- The walk of ReadPlays: for any text the law answers true; its premises are what the row gives. -/
import Derived.Test.YthfbkhjcnfjmmaaDoorRefR5
import Derived.Test.YthfbkhjcnfjmmaaDoorReadW
import Derived.Test.YthfbkhjcnfjmmaaDoorReadP3
import Derived.Test.YthfbkhjcnfjmmaaDoorLexVars
import Derived.Test.YthfbkhjcnfjmmaaDoorRows
namespace Go.Proofs.YthfbkhjcnfjmmaaDoor.RefR
open Go Go.RowKit Go.Proofs.YthfbkhjcnfjmmaaDoor.Heap Go.Proofs.YthfbkhjcnfjmmaaDoor.ReadP Go.Proofs.YthfbkhjcnfjmmaaDoor.LexP Go.Proofs.YthfbkhjcnfjmmaaDoor.ReadM
open Go.Proofs.YthfbkhjcnfjmmaaDoorW.PrintWords (Aside0 below_then below_alloc)
theorem RN_nil (w : World) : RN w (.slice none 0 0) [] := ⟨none, 0, rfl, Nat.le_refl _, fun h => absurd h (Nat.lt_irrefl 0), fun _ h => by cases h⟩
set_option maxHeartbeats 2000000 in
set_option maxRecDepth 100000 in
theorem plays_walk (s : ByteArray) (w : World) (hV : Go.Proofs.YthfbkhjcnfjmmaaDoor.LexC.Vars w) :
    Calls Tryd.prog 3 #[.string s] w fun e w' => e = .returned (.bool true) ∧ Below w.heap.size w w' := by
  have D1 := fun w hV => Go.Proofs.YthfbkhjcnfjmmaaDoor.ReadM.read_calls s w hV
  have D2 := fun w => Go.Proofs.YthfbkhjcnfjmmaaDoor.RefR.read_calls s w
  generalize hR : readF s.data.toList = R at D1 D2
  replace hV := Aside0.mk hV
  have HR := Lib.hid hR
  clear hR
  by_cases hs : 4500 < s.size
  · have c1 : decide (4500 < (s.size : Int)) = true := decide_eq_true (by omega)
    have c1' : decide (4500 < s.size) = true := decide_eq_true hs
    clear hs D1 D2
    go_enter Tryd.func3, Tryd.ntmps3
    go_wp2_with fail
    refine (shown_calls _ hV.out).mono ?_
    rintro e w1 ⟨rfl, hb⟩
    have HB := Aside0.mk hb
    clear hb
    go_wp2_with fail
    go_ret
    exact ⟨rfl, HB.out⟩
  have c1 : decide (4500 < (s.size : Int)) = false := decide_eq_false (by omega)
  have c1' : decide (4500 < s.size) = false := decide_eq_false hs
  clear hs
  cases R with
  | error x =>
    obtain ⟨i, er⟩ := x
    simp only [ReadPost] at D1 D2
    have FS1 := Lib.hid D1
    have FS2 := Lib.hid D2
    clear D1 D2
    go_enter Tryd.func3, Tryd.ntmps3
    go_wp2_with fail
    refine (shown_calls _ hV.out).mono ?_
    rintro e w1 ⟨rfl, hb⟩
    have HB := Aside0.mk hb
    have V1 := Aside0.mk (hV.out.below HB.out (Nat.le_refl _))
    clear hb
    go_wp2_with fail
    refine (FS1.out _ V1.out).mono ?_
    rintro e w2 ⟨⟨base1, hbl1, rfl⟩, hb⟩
    have HB2 := Aside0.mk (below_then HB.out HB.out.size hb)
    clear hb hbl1
    go_wp2_with fail
    refine (FS2.out _).mono ?_
    rintro e w3 ⟨⟨base2, hbl2, rfl⟩, hb⟩
    have HB3 := Aside0.mk (below_then HB2.out HB2.out.size hb)
    clear hb hbl2
    go_wp2_with fail
    refine (nodes_same [] [] _ _ _ (RN_nil _) (RN_nil _) rfl (Nat.zero_le _) (fun _ h => by cases h)).mono ?_
    rintro e w4 ⟨rfl, n4, hw4⟩
    have HB4 := Aside0.mk (show Below w.heap.size w w4 by rw [hw4]; exact below_draw HB3.out n4)
    clear hw4
    go_wp2_with fail
    refine (ints_same [] _ _ _ (RI_nil _) (RI_nil _) (Nat.zero_le _)).mono ?_
    rintro e w5 ⟨rfl, n5, hw5⟩
    have HB5 := Aside0.mk (show Below w.heap.size w w5 by rw [hw5]; exact below_draw HB4.out n5)
    clear hw5
    go_wp2_with fail
    go_ret
    exact ⟨rfl, HB5.out⟩
  | ok y =>
    obtain ⟨row, tops⟩ := y
    have LO1 := (read_lo HR.out).1
    have LT1 := (read_lo HR.out).2.1
    have LR1 := (read_ok HR.out).2
    have htl : tops.length ≤ 1000000 := by omega
    have hll : ∀ x ∈ row, x.l.length ≤ 1000000 := fun x hx => by have := (LO1 x hx).1; omega
    have HLL := Lib.hid hll
    have HLR := Lib.hid LR1
    clear LO1 LT1 LR1 hll
    simp only [ReadPost] at D1 D2
    have FS1 := Lib.hid D1
    have FS2 := Lib.hid D2
    clear D1 D2
    go_enter Tryd.func3, Tryd.ntmps3
    go_wp2_with fail
    refine (shown_calls _ hV.out).mono ?_
    rintro e w1 ⟨rfl, hb⟩
    have HB := Aside0.mk hb
    have V1 := Aside0.mk (hV.out.below HB.out (Nat.le_refl _))
    clear hb
    go_wp2_with fail
    refine (FS1.out _ V1.out).mono ?_
    rintro e w2 ⟨⟨base1, hbl1, v0, v1, rs1, rfl, hrs1, hN, hT, hI, _⟩, hb⟩
    have HB2 := Aside0.mk (below_then HB.out HB.out.size hb)
    have N1 := Lib.hid (Nodes.rn hN hI)
    have T1 := Lib.hid (Ints.ri hT)
    have HRS1 := Lib.hid hrs1
    clear hb hbl1 hrs1 hN hT hI
    go_wp2_with fail
    refine (FS2.out _).mono ?_
    rintro e w3 ⟨⟨base2, hbl2, v2, v3, rs2, rfl, hrs2, hN, hT, hI, _⟩, hb⟩
    have HB3 := Aside0.mk (below_then HB2.out HB2.out.size hb)
    have K23 : Chg [] w2 w3 := Heap.Chg.of_below hb
    have M1 := Lib.hid (N1.out.chg K23)
    have U1 := Lib.hid (T1.out.chg K23)
    have M2 := Lib.hid (Nodes.rn hN hI)
    have U2 := Lib.hid (Ints.ri hT)
    have HRS2 := Lib.hid hrs2
    clear hb hbl2 hrs2 hN hT hI K23 N1 T1
    go_wp2_with fail
    refine (nodes_same rs1 rs2 v0 v2 _ M1.out M2.out (by rw [HRS1.out, HRS2.out]) ?_ ?_).mono ?_
    · have h2 := congrArg List.length HRS1.out
      have := HLR.out
      simp only [List.length_map] at h2
      omega
    · exact fun p hp => HLL.out p.1 (by rw [← show rs1.map (·.1) = row from HRS1]; exact List.mem_map_of_mem hp)
    rintro e w4 ⟨rfl, n4, hw4⟩
    have K34 : Chg [] w3 w4 := by rw [hw4]; exact (Chg.refl [] w3).draw n4
    have U3 := Lib.hid (U1.out.chg K34)
    have U4 := Lib.hid (U2.out.chg K34)
    have HB4 := Aside0.mk (show Below w.heap.size w w4 by rw [hw4]; exact below_draw HB3.out n4)
    clear hw4 K34 U1 U2
    go_wp2_with fail
    refine (ints_same tops v1 v3 _ U3.out U4.out htl).mono ?_
    rintro e w5 ⟨rfl, n5, hw5⟩
    have HB5 := Aside0.mk (show Below w.heap.size w w5 by rw [hw5]; exact below_draw HB4.out n5)
    clear hw5
    go_wp2_with fail
    go_ret
    exact ⟨rfl, HB5.out⟩
theorem walkReadPlays (s : ByteArray) (w : World) (hL : laidMetH Tryd.prog Rows.readPlaysRow.laid w) (_hs : s.size ≤ maxLen) :
    Calls Tryd.prog 3 #[.string s] w fun e w' => e = .returned (.bool true) ∧ Below w.heap.size w w' :=
  plays_walk s w (Go.Proofs.YthfbkhjcnfjmmaaDoor.LexC.vars_of hL (by kernel_rfl) (by kernel_rfl))
end Go.Proofs.YthfbkhjcnfjmmaaDoor.RefR

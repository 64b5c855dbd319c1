/- The examples at the head of the laws of layer 7 hold; each states its conditions. -/
import Derived.Test.YtomhkemdafiphaaGreatDoorShowC6
import Derived.Test.YtomhkemdafiphaaGreatDoorShowC2
import Derived.Test.YtomhkemdafiphaaGreatDoorLexVars
import Derived.Test.YtomhkemdafiphaaGreatDoorArenaC6
import Derived.Test.YtomhkemdafiphaaGreatDoorReadK
import Derived.Lib.LaidTab
namespace Go.Proofs.YtomhkemdafiphaaGreatDoor.ShowC
open Go.Proofs.YtomhkemdafiphaaGreatDoor.Word Go Go.RowKit Go.Proofs.YtomhkemdafiphaaGreatDoor.Heap Go.Proofs.YtomhkemdafiphaaGreatDoor.ReadP Go.Proofs.YtomhkemdafiphaaGreatDoor.TreeP Go.Proofs.YtomhkemdafiphaaGreatDoor.ShowP Go.Proofs.YtomhkemdafiphaaGreatDoor.ShowB Go.Proofs.YtomhkemdafiphaaGreatDoor.ShowW
open Go.Proofs.YtomhkemdafiphaaGreatDoor.ReadM (RI RN nodeC intOf6 read_calls ReadPost Nodes)
open Go.Proofs.YtomhkemdafiphaaGreatDoor.Ar (Thing IsAr new_calls alloc_calls rd_new tot)
open Go.Lib (itoa byteCells)
open Go.Proofs.YtomhkemdafiphaaGreatDoorW.PrintWords (Aside0 below_then below_alloc)
/-- what the library's variables hold -/
structure VarsS (w : World) : Prop where
  v : Go.Proofs.YtomhkemdafiphaaGreatDoor.LexC.Vars w
  t : Tab w
theorem VarsS.chg {w w' : World} (h : VarsS w) (k : Chg [] w w') : VarsS w' := ⟨h.v.below k.below (Nat.le_refl _), h.t.chg k⟩
theorem varsS_of {W : World} {l : List (String × DataW Unit)} (h : laidMetH Tryz.prog l W) (h0 : (l.all fun x => x.2.handleName?.isNone) = true)
    (hf : l.filter (fun x => x.1 == "strconv.ErrRange") = [("strconv.ErrRange", .iface "*errors.errorString" (.ptr (.agg [.lit (.string [118, 97, 108, 117, 101, 32, 111, 117, 116, 32, 111, 102, 32, 114, 97, 110, 103, 101])])))])
    (hg : l.filter (fun x => x.1 == "internal/strconv.uint64pow10") = [("internal/strconv.uint64pow10", Lib.tabData .u64 Lib.pow10Tab)]) : VarsS W := by
  refine ⟨Go.Proofs.YtomhkemdafiphaaGreatDoor.LexC.vars_of h h0 hf, ?_⟩
  rw [MakeChecks.laidMetH_plain _ _ _ h0] at h
  have h1 := h.filter (fun x => x.1 == "internal/strconv.uint64pow10")
  rw [hg] at h1
  exact Lib.tabIs_of_head (show Tryz.prog.globalNamed "internal/strconv.uint64pow10" = some 0 by kernel_rfl) (show (Tryz.prog.globals[0]?).map (·.type) = some 177 by kernel_rfl) Tryz.underlying177 Tryz.underlying40 (by kernel_rfl) (by kernel_rfl) h1
theorem RI_nil (w : World) : RI w (.slice none 0 0) [] := ⟨none, 0, rfl, Nat.le_refl _, fun h => absurd h (Nat.lt_irrefl 0)⟩
theorem RI_blk {w : World} {k : Nat} {t : TypeId} {l : List Int} (h : w.heap[k]? = some (.cells (nums .i64 l).toArray t (0, 0))) (c : Nat) (hc : l.length ≤ c) : RI w (.slice (some ⟨k, 0, none⟩) l.length c) l :=
  ⟨_, c, rfl, hc, fun _ => ⟨k, 0, rfl, fun j x hj => by rw [Nat.zero_add, Heap.blk_cell h, nums_get, hj]; rfl⟩⟩
theorem exR : readF [40, 32, 97, 32, 39, 98, 32, 32, 41] = .ok ([⟨3, 2, 0, [97], []⟩, ⟨3, 4, 0, [113, 117, 111, 116, 101], []⟩, ⟨3, 5, 0, [98], []⟩, ⟨4, 4, 0, [], [1, 2]⟩, ⟨4, 0, 0, [], [0, 3]⟩], [4]) := by kernel_rfl
theorem exD : datumP [⟨3, 2, 0, [97], []⟩, ⟨3, 4, 0, [113, 117, 111, 116, 101], []⟩, ⟨3, 5, 0, [98], []⟩, ⟨4, 4, 0, [], [1, 2]⟩, ⟨4, 0, 0, [], [0, 3]⟩] 4 = some [40, 97, 32, 39, 98, 41] := by decide +kernel
theorem itoa_one {i : Nat} (h : i < 10) : itoa (i : Int) = [UInt8.ofNat (48 + i)] := by
  unfold itoa
  rw [if_neg (by omega), Int.toNat_natCast, Lib.decDigits_one h]
theorem exW : wordX (pairP [(1, [8, 16])]) (plainP [(1, [8, 16])] []) 1 = [40, 49, 32, 46, 32, 50, 41] := by
  have h1 : pairP [(1, [8, 16])] 1 = some (8, 16) := by decide +kernel
  have h2 : pairP [(1, [8, 16])] 8 = none := by decide +kernel
  have h3 : pairP [(1, [8, 16])] 16 = none := by decide +kernel
  have p8 : plainP [(1, [8, 16])] [] 8 = [49] := by
    have e : toIntP 8 = (1, true) := by decide +kernel
    unfold plainP
    rw [e, if_pos rfl]
    exact itoa_one (i := 1) (by decide)
  have p16 : plainP [(1, [8, 16])] [] 16 = [50] := by
    have e : toIntP 16 = (2, true) := by decide +kernel
    unfold plainP
    rw [e, if_pos rfl]
    exact itoa_one (i := 2) (by decide)
  rw [word_full _ _ 1 4 [40, 49, 32, 46, 32, 50, 41] (by simp [fullT, h1, h2, h3, p8, p16])]
  decide
set_option maxHeartbeats 4000000 in
set_option maxRecDepth 100000 in
theorem shown_calls (w : World) (hV : VarsS w) :
    Calls Tryz.prog 13 #[] w fun e w' => e = .returned (.bool true) ∧ Chg [] w w' := by
  have RC := Lib.hid (read_calls (⟨#[40, 32, 97, 32, 39, 98, 32, 32, 41]⟩ : ByteArray) w hV.v)
  have HV := Lib.hid hV
  clear hV
  go_enter Tryz.func13, Tryz.ntmps13
  go_wp2_with fail
  refine RC.out.mono ?_
  rintro e w2 ⟨⟨base, hb, hp⟩, hB⟩
  rw [exR] at hp
  obtain ⟨v0, v1, rs, rfl, hrs, hN, hT, hI, _⟩ := hp
  have HRN := Lib.hid (Nodes.rn hN hI)
  have HRI := Lib.hid hT.ri
  have K2 := Lib.hid (Chg.of_below (F := []) hB)
  have HRS := Lib.hid hrs
  clear hrs hN hT hI hB RC hb
  have hfl : ∀ p ∈ rs, p.1.l.length ≤ 10000 ∧ p.1.n = 0 ∧ p.1.s.length ≤ 10000 := fun p hp => by
    have hm : p.1 ∈ rs.map (·.1) := List.mem_map_of_mem hp
    rw [HRS.out] at hm
    simp at hm
    rcases hm with h | h | h | h | h <;> rw [h] <;> decide
  have HFL := Lib.hid hfl
  have hlen : rs.length = 5 := by have := congrArg List.length HRS.out; simpa using this
  have HLEN := Lib.hid hlen
  obtain ⟨A1, c1, rfl, _, hq⟩ := id HRI.out
  obtain ⟨b4, o4, rfl, hq4⟩ := hq (by decide)
  have q0 := hq4 0 4 rfl
  rw [Nat.add_zero] at q0
  obtain ⟨A0, c0, hv0, _⟩ := id HRN.out
  rw [hlen] at hv0
  subst hv0
  have HQ0 := Lib.hid q0
  clear hq hq4 hfl hlen q0
  go_wp2_with fail
  refine (new_calls 9 _ (by decide) (by decide)).mono ?_
  rintro e w3 ⟨g, bw, bh, rfl, ha, hc, l1, l2, l3⟩
  have HA := Lib.hid ha
  have K3 := Lib.hid hc
  have q1 := hc.cell HQ0.out (by simp)
  have HGG := Lib.hid (show w2.heap.size ≤ g ∧ w2.heap.size ≤ bw ∧ w2.heap.size ≤ bh from ⟨l1, l2, l3⟩)
  have SC := Lib.hid (show_calls (HRN.out.chg hc) (by have := HLEN.out; omega) (fun p hp => (HFL.out p hp).1) (fun p hp => by rw [(HFL.out p hp).2.1]; decide) (fun p hp => (HFL.out p hp).2.2) ((HV.out.chg (K2.out.sub hc)).t) 4)
  clear ha hc l1 l2 l3
  go_wp2_with fail
  refine SC.out.mono ?_
  rintro e w4 ⟨rfl, k4⟩
  rw [HRS.out, exD]
  unfold datumE
  simp only
  have K4 := Lib.hid k4
  have HA4 := Lib.hid (HA.out.sub k4)
  clear k4 SC q1
  go_wp2_with fail
  refine (alloc_calls (HA4.out.sub ((Chg.refl [] w4).alloc _)) 1 _ [8, 16] (rd_new _ _ _ rfl HA4.out.lt _ _ _ rfl rfl) (by decide) (by decide) (by decide) (by decide)).mono ?_
  rintro e w5 ⟨rfl, ha5, hc5⟩
  have HC5 := Lib.hid hc5
  have hz : (tot ([] : List Thing) : Int) * 8 + 1 = 1 := rfl
  rw [hz]
  have EE : Env w5 w5.heap.size (.pointer (some ⟨g, 0, none⟩)) (.pointer none) [(1, [8, 16])] [] := by
    have kk : Below w.heap.size w w5 := by
      have h1 : Chg [] w w4 := (K2.out.sub K3.out).sub K4.out
      have h2 : Chg [] w w5 := (h1.alloc _).trans HC5.out (fun b hb => by
        have h3 := HGG.out
        have h4 := K2.out.size
        simp only [List.mem_cons, List.not_mem_nil, or_false] at hb
        rcases hb with rfl | rfl | rfl <;> exact .inr (by omega))
      exact h2.below
    exact ⟨⟨g, bw, bh, 9, rfl, ha5⟩, .inl ⟨rfl, rfl⟩, HV.out.t.below kk, Nat.le_refl _, fun o ho v hv => by
      have : o = (1, [8, 16]) := by simpa using ho
      subst this
      simp at hv
      omega, fun s hs => by cases hs⟩
  have WC := Lib.hid (word_shown EE 1 (by decide) (by decide))
  clear ha5 hc5 EE
  go_wp2_with fail
  refine WC.out.mono ?_
  rintro e w6 ⟨rfl, k6⟩
  rw [exW]
  have K6 := Lib.hid k6
  clear k6
  go_wp2_with fail
  go_ret
  refine ⟨rfl, ?_⟩
  have h1 : Chg [] w w4 := (K2.out.sub K3.out).sub K4.out
  have h2 : Chg [] w w5 := (h1.alloc _).trans HC5.out (fun b hb => by
    have h3 := HGG.out
    have h4 := K2.out.size
    simp only [List.mem_cons, List.not_mem_nil, or_false] at hb
    rcases hb with rfl | rfl | rfl <;> exact .inr (by omega))
  exact h2.sub K6.out
end Go.Proofs.YtomhkemdafiphaaGreatDoor.ShowC

/- Contracts of numbers as text of the document of layer 7; each states its conditions. -/
import Derived.Test.YtomhkemdafiphaaGreatDoorShowC6
import Derived.Test.YtomhkemdafiphaaGreatDoorShowC2
import Derived.Test.YtomhkemdafiphaaGreatDoorMayR
import Derived.BigRegion
namespace Go.Proofs.YtomhkemdafiphaaGreatDoor.ShowC
open Go.Proofs.YtomhkemdafiphaaGreatDoor.Word Go Go.RowKit Go.Proofs.YtomhkemdafiphaaGreatDoor.Heap
open Go.Proofs.YtomhkemdafiphaaGreatDoor.ReadM (intOf6)
open Go.Lib (itoa decDigits)
theorem dec_len : ∀ (k n : Nat), 0 < k → n < 10 ^ k → (decDigits n).length ≤ k
  | 0, _, h, _ => absurd h (by decide)
  | k + 1, n, _, h => by
    rw [decDigits]
    by_cases h10 : n < 10
    · rw [dif_pos h10]; simp
    · rw [dif_neg h10, List.length_append, List.length_singleton]
      have hk : 0 < k := by
        rcases Nat.eq_zero_or_pos k with h0 | h0
        · subst h0; simp at h; omega
        · exact h0
      have := dec_len k (n / 10) hk (by rw [Nat.pow_succ] at h; omega)
      omega
theorem dig_byte (d : Nat) (h : d < 10) : ((UInt8.ofNat (48 + d)).toNat : Int) = 48 + (d : Int) := by
  have key : ∀ d < 10, (UInt8.ofNat (48 + d)).toNat = 48 + d := by decide
  rw [key d h]; omega
theorem conv_one (W : World) (d : Nat) (h : d < 10) : (convert 72 9 (.slice (some ⟨W.heap.size, 0, none⟩) 1 1)).run Tryz.prog (W.alloc (.cells #[.int .u8 (48 + (d : Int))] 5)) = .ok (.string ⟨#[UInt8.ofNat (48 + d)]⟩) (W.alloc (.cells #[.int .u8 (48 + (d : Int))] 5)) :=
  run_convert_bytes_back _ 72 9 5 ⟨W.heap.size, 0, none⟩ 1 [UInt8.ofNat (48 + d)] Tryz.underlying72 Tryz.underlying5 Tryz.underlying9 (fun j hj => by
    have : j = 0 := by simpa using hj
    subst this
    rw [Go.Proofs.YtomhkemdafiphaaGreatDoor.Own.add_flat, Heap.blk_cell (Heap.blk_new rfl)]
    show some (Value.int .u8 (48 + (d : Int))) = some (Value.int .u8 (((UInt8.ofNat (48 + d)).toNat : Nat) : Int))
    rw [dig_byte d h])
set_option maxHeartbeats 2000000 in
set_option maxRecDepth 100000 in
theorem digits2_calls (n : Nat) (hn : n < 18446744073709551616) (w : World) :
    Calls Tryz.prog 40 #[.int .u64 (n : Int)] w fun e w' => e = .returned (.string ⟨(decDigits n).toArray⟩) ∧ Chg [] w w' := by
  have hl20 := dec_len 20 n (by decide) (by have : (10 : Nat) ^ 20 = 100000000000000000000 := by decide
                                            omega)
  have HL := Lib.hid hl20
  clear hl20
  go_enter Tryz.func40, Tryz.ntmps40
  go_wp2_with fail
  go_loopw [0, 3] (fun a b wr => ∃ (m : Nat) (s : List UInt8), a = .int .u64 (m : Int) ∧ b = .string ⟨s.toArray⟩ ∧ m ≤ n ∧ Hid (decDigits n = decDigits m ++ s) ∧ Hid (Chg [] w wr)) (fun a _ _ => (intOf6 a).toNat)
  case atStart => exact ⟨n, [], rfl, rfl, Nat.le_refl _, Lib.hid (by simp), Lib.hid (Chg.refl _ _)⟩
  case round =>
    obtain ⟨m, s, rfl, rfl, hm, HD, HK⟩ := hrel
    have hsl : s.length ≤ 20 := by have := congrArg List.length HD.out; have := HL.out; rw [List.length_append] at *; omega
    have p0 : (0 : Int) ≤ (m : Int) := by omega
    have p1 : (m : Int) < 18446744073709551616 := by omega
    have hs1 : 1 + s.length ≤ 9223372036854775807 := by omega
    by_cases h9 : 9 < m
    · have c1 : decide ((9 : Int) < (m : Int)) = true := decide_eq_true (by omega)
      have c1' : decide (9 < m) = true := decide_eq_true h9
      have KC := conv_one wr (m % 10) (by omega)
      have e1 : ((m % 10 : Nat) : Int) = (m : Int) % 10 := by omega
      rw [e1] at KC
      have hdd : decDigits m = decDigits (m / 10) ++ [UInt8.ofNat (48 + m % 10)] := by rw [decDigits, dif_neg (by omega)]
      have HDD := Lib.hid hdd
      have H9 := Lib.hid h9
      clear hdd h9 e1 hsl
      go_wp2_with fail
      refine ⟨⟨m / 10, UInt8.ofNat (48 + m % 10) :: s, by simp, ?_, by omega, Lib.hid (by rw [HD.out, HDD.out]; simp), HK.out.alloc _⟩, ?_⟩
      · have := cat_bytes [UInt8.ofNat (48 + m % 10)] s
        simpa using this
      · have := H9.out
        simp [intOf6]; omega
    · have c1 : decide ((9 : Int) < (m : Int)) = false := decide_eq_false (by omega)
      have c1' : decide (9 < m) = false := decide_eq_false h9
      have KC := conv_one wr m (by omega)
      have hdd : decDigits m = [UInt8.ofNat (48 + m)] := by rw [decDigits, dif_pos (by omega)]
      have HDD := Lib.hid hdd
      have p2 : (m : Int) < 10 := by omega
      clear hdd h9 hsl
      go_wp2_with fail
      go_ret
      refine ⟨?_, HK.out.alloc _⟩
      rw [HD.out, HDD.out]
      have := cat_bytes [UInt8.ofNat (48 + m)] s
      simpa using this
set_option maxHeartbeats 2000000 in
theorem digits_calls (n : Int) (h0 : -9223372036854775808 ≤ n) (h1 : n < 9223372036854775808) (w : World) :
    Calls Tryz.prog 20 #[.int .i64 n] w fun e w' => e = .returned (.string ⟨(itoa n).toArray⟩) ∧ Chg [] w w' := by
  by_cases hn : n < 0
  · have c1 : decide (n < 0) = true := decide_eq_true hn
    have hit : itoa n = 45 :: decDigits n.natAbs := by unfold itoa; rw [if_pos hn]
    have hle := dec_len 20 n.natAbs (by decide) (by have : (10 : Nat) ^ 20 = 100000000000000000000 := by decide
                                                    omega)
    have DC := Lib.hid (digits2_calls n.natAbs (by omega) w)
    have hs1 : 1 + (decDigits n.natAbs).length ≤ 9223372036854775807 := by omega
    have e1 : IntKind.u64.wrap (wrap64 (-n)) = ((n.natAbs : Nat) : Int) := by rw [wrap_u64]; unfold wrap64; omega
    have HI := Lib.hid hit
    clear hit hn h0 h1 hle
    go_enter Tryz.func20, Tryz.ntmps20
    go_wp2_with fail
    refine DC.out.mono ?_
    rintro e w1 ⟨rfl, k1⟩
    go_wp2_with fail
    go_ret
    rw [HI.out]
    exact ⟨congrArg (fun z => Ending.returned (.string z)) (cat_bytes [45] (decDigits n.natAbs)), k1⟩
  · have c1 : decide (n < 0) = false := decide_eq_false hn
    obtain ⟨k, rfl⟩ : ∃ k : Nat, n = (k : Int) := ⟨n.toNat, by omega⟩
    have hit : itoa (k : Int) = decDigits k := by unfold itoa; rw [if_neg hn, Int.toNat_natCast]
    have DC := Lib.hid (digits2_calls k (by omega) w)
    have e1 : IntKind.u64.wrap (k : Int) = (k : Int) := by rw [wrap_u64]; omega
    have HI := Lib.hid hit
    clear hit hn h0 h1
    go_enter Tryz.func20, Tryz.ntmps20
    go_wp2_with fail
    refine DC.out.mono ?_
    rintro e w1 ⟨rfl, k1⟩
    go_wp2_with fail
    go_ret
    rw [HI.out]
    exact ⟨rfl, k1⟩
end Go.Proofs.YtomhkemdafiphaaGreatDoor.ShowC
/- The contract of the document's datum of layer 7; each states its conditions. -/
namespace Go.Proofs.YtomhkemdafiphaaGreatDoor.ShowC
open Go.Proofs.YtomhkemdafiphaaGreatDoor.Word Go Go.RowKit Go.Proofs.YtomhkemdafiphaaGreatDoor.Heap Go.Proofs.YtomhkemdafiphaaGreatDoor.ReadP Go.Proofs.YtomhkemdafiphaaGreatDoor.TreeP Go.Proofs.YtomhkemdafiphaaGreatDoor.ShowP Go.Proofs.YtomhkemdafiphaaGreatDoor.ShowB
open Go.Proofs.YtomhkemdafiphaaGreatDoor.ReadM (RI RN nodeC intOf6)
open Go.Lib (itoa byteCells)
/-- a datum as the document's text -/
def RDat (w0 : World) (vL : Value) (m : Nat) (fm : Int → List UInt8) : Prop := ∀ (k : Nat) (w : World), k < m → Chg [] w0 w → (fm (k : Int)).length ≤ 1000000000 →
  Calls Tryz.prog 32 #[vL, .int .i64 (k : Int)] w (fun e w' => e = .returned (.string ⟨(fm (k : Int)).toArray⟩) ∧ Chg [] w w')
set_option maxHeartbeats 8000000 in
set_option maxRecDepth 100000 in
theorem rdatum_step {w0 : World} {vL : Value} {rs : List (Nd × Value)} {L : List Nd} (D : Dat w0 vL rs L) (fm : Int → List UInt8) (k : Nat) (F : RDat w0 vL k fm) (w : World) (hk : k < L.length) (hold : Chg [] w0 w) (hlen : (datS fm L (k : Int)).length ≤ 1000000000) :
    Calls Tryz.prog 32 #[vL, .int .i64 (k : Int)] w (fun e w' => e = .returned (.string ⟨(datS fm L (k : Int)).toArray⟩) ∧ Chg [] w w') := by
  obtain ⟨b1, o1, c1, rfl, hall⟩ := D.all (by omega)
  obtain ⟨LA, Lc, hlc, hcell, hri⟩ := hall k hk
  obtain ⟨a0, a1, a2, a3, a4⟩ := hcell w hold
  have HALL := Lib.hid hall
  have HF := Lib.hid F
  have hwf := D.wf _ (List.mem_of_getElem? (nd_nth hk))
  have hlens := D.lens _ (List.mem_of_getElem? (nd_nth hk))
  have hpart : ∀ p ∈ (nd L (k : Int)).l, 0 ≤ p ∧ p < k := fun p hp => D.ahead k _ (nd_nth hk) p hp
  have hans : datS fm L (k : Int) = (if (nd L (k : Int)).kind = 1 then itoa (nd L (k : Int)).n
    else if (nd L (k : Int)).kind = 2 then markB (decide ((nd L (k : Int)).n = 1))
    else if (nd L (k : Int)).kind = 3 then (nd L (k : Int)).s
    else if isQuoted L (k : Int) then 39 :: fm (el (nd L (k : Int)).l 1)
    else 40 :: (itemsX fm (nd L (k : Int)).l ++ [41])) := rfl
  have hqd : isQuoted L (k : Int) ↔ (nd L (k : Int)).l.length = 2 ∧ (nd L (el (nd L (k : Int)).l 0)).kind = 3 ∧ (nd L (el (nd L (k : Int)).l 0)).s = quoteL := Iff.rfl
  generalize hx : nd L (k : Int) = x at *
  obtain ⟨kd, pos, n, s, l⟩ := x
  simp only at a0 a1 a2 a3 a4 hlc hlens hri hwf hpart hans hqd
  have p0 : (0 : Int) ≤ (k : Int) := by omega
  have p1 : (k : Int) < (L.length : Int) := by omega
  obtain ⟨W1, hW1⟩ : ∃ W1, W1 = w.alloc (.cells #[.int .u8 kd, .int .i64 pos, .int .i64 n, .string ⟨s.toArray⟩, .slice LA l.length Lc] 34) := ⟨_, rfl⟩
  have k1 : Chg [] w W1 := by rw [hW1]; exact (Chg.refl [] w).alloc _
  have hbx : W1.heap[w.heap.size]? = some (.cells #[.int .u8 kd, .int .i64 pos, .int .i64 n, .string ⟨s.toArray⟩, .slice LA l.length Lc] 34 (0, 0)) := by rw [hW1]; exact blk_new rfl
  have HW1 := Lib.hid hW1
  have K1 := Lib.hid k1
  have HBX := Lib.hid hbx
  have HO1 := Lib.hid (hold.sub k1)
  have HANS := Lib.hid hans
  have HLEN := Lib.hid hlen
  have HRI := Lib.hid hri
  have HP := Lib.hid hpart
  have HQD := Lib.hid hqd
  have HWF := Lib.hid hwf
  clear hW1 k1 hbx hall hcell hri hpart hans hqd hlen F D hwf hold hx
  go_enter Tryz.func32, Tryz.ntmps32
  go_upto_region 2 with fail
  rw [← show W1 = _ from HW1]
  have x0 := blk_cell HBX.out 0
  have x2 := blk_cell HBX.out 2
  have x3 := blk_cell HBX.out 3
  have x4 := blk_cell HBX.out 4
  simp at x0 x2 x3 x4
  clear a0 a1 a2 a3 a4
  by_cases h1 : kd = 1
  · subst h1
    have hr := HANS.out.trans (if_pos rfl)
    have HR := Lib.hid hr
    have IC := Lib.hid (digits_calls n HWF.out.1 HWF.out.2 W1)
    clear hr
    go_wp2_with fail
    refine IC.out.mono ?_
    rintro e w2 ⟨rfl, k2⟩
    go_wp2_with fail
    go_ret
    rw [HR.out]
    exact ⟨rfl, K1.out.sub k2⟩
  have c1 : (kd == 1) = false := by simpa using h1
  by_cases h2 : kd = 2
  · subst h2
    have hr := HANS.out.trans ((if_neg h1).trans (if_pos rfl))
    by_cases hn1 : n = 1
    · subst hn1
      have HR := Lib.hid hr
      clear hr
      go_wp2_with fail
      go_ret
      rw [HR.out]
      exact ⟨rfl, K1.out⟩
    · have c9 : (n == 1) = false := by simpa using hn1
      have hm : markB (decide (n = 1)) = [35, 102] := by unfold markB; rw [if_neg (by simpa using hn1)]
      rw [hm] at hr
      have HR := Lib.hid hr
      clear hr hn1
      go_wp2_with fail
      go_ret
      rw [HR.out]
      exact ⟨rfl, K1.out⟩
  have c2 : (kd == 2) = false := by simpa using h2
  by_cases h3 : kd = 3
  · subst h3
    have hr := HANS.out.trans ((if_neg h1).trans ((if_neg h2).trans (if_pos rfl)))
    have HR := Lib.hid hr
    clear hr
    go_wp2_with fail
    go_ret
    rw [HR.out]
    exact ⟨rfl, K1.out⟩
  have c3 : (kd == 3) = false := by simpa using h3
  have hr := HANS.out.trans ((if_neg h1).trans ((if_neg h2).trans (if_neg h3)))
  have HR0 := Lib.hid hr
  have BX : Hid (∀ w', Chg [] W1 w' → w'.heap[w.heap.size]? = some (.cells #[.int .u8 kd, .int .i64 pos, .int .i64 n, .string ⟨s.toArray⟩, .slice LA l.length Lc] 34 (0, 0))) := Lib.hid (fun w' h => h.at HBX.out (by simp))
  have bl0 : (0 : Int) ≤ (l.length : Int) := by omega
  have bl1 : (l.length : Int) ≤ 10000 := by omega
  clear hr h1 h2 h3
  by_cases hl2 : l.length = 2
  · have c4 : ((l.length : Int) == 2) = true := by simp; omega
    have c4' : (l.length == 2) = true := by simpa using hl2
    obtain ⟨p, y, rfl⟩ : ∃ p y, l = [p, y] := by
      match l, hl2 with
      | [p, y], _ => exact ⟨p, y, rfl⟩
    have hpm := HP.out p (by simp)
    have hym := HP.out y (by simp)
    obtain ⟨q, rfl⟩ : ∃ q : Nat, p = (q : Int) := ⟨p.toNat, by omega⟩
    obtain ⟨z, rfl⟩ : ∃ z : Nat, y = (z : Int) := ⟨y.toNat, by omega⟩
    obtain ⟨LA2, Lc2, _, hcell2, _⟩ := HALL.out q (by omega)
    obtain ⟨u0, _, _, u3, _⟩ := hcell2 W1 HO1.out
    obtain ⟨_, _, he, _, hq0⟩ := HRI.out W1 HO1.out
    simp only [Value.slice.injEq] at he
    obtain ⟨rfl, _, rfl⟩ := he
    obtain ⟨bb, oo, hA, hq⟩ := hq0 (by simp)
    subst hA
    have q0 := hq 0 _ rfl
    have q1 := hq 1 _ rfl
    have hqd := HQD.out
    have e0 : el [(q : Int), (z : Int)] 0 = (q : Int) := rfl
    have e1 : el [(q : Int), (z : Int)] 1 = (z : Int) := rfl
    rw [e0] at hqd
    rw [e1] at HR0
    generalize (nd L (q : Int)).kind = kq at u0 hqd
    generalize (nd L (q : Int)).s = sq at u3 hqd
    have pq0 : (0 : Int) ≤ (q : Int) := by omega
    have pq1 : (q : Int) < (L.length : Int) := by omega
    have i0 : (0 : Int) < (([(q : Int), (z : Int)].length : Nat) : Int) := by simp
    have i1 : (1 : Int) < (([(q : Int), (z : Int)].length : Nat) : Int) := by simp
    have hzk : z < k := by omega
    have hlen2 : [(q : Int), (z : Int)].length = 2 := rfl
    rw [Nat.add_zero] at q0
    by_cases hk3 : kq = 3
    · subst hk3
      have hxd : (⟨sq.toArray⟩ : ByteArray).data.toList = sq := by simp
      generalize (⟨sq.toArray⟩ : ByteArray) = X at u3 hxd
      by_cases hs : sq = quoteL
      · have c5 : (X.toList == [113, 117, 111, 116, 101]) = true := by
          have : X.toList = sq := by rw [e_tl]; exact hxd
          rw [this, hs]; rfl
        have hr := HR0.out.trans (if_pos (hqd.2 ⟨rfl, rfl, hs⟩))
        have HR := Lib.hid hr
        have hl9 := HLEN.out
        rw [hr, List.length_cons] at hl9

        have DC := Lib.hid (HF.out z W1 hzk HO1.out (by omega))
        have n1 : 1 + (fm (z : Int)).length ≤ 9223372036854775807 := by omega
        clear hr hl9 hs hxd hqd hq hq0 hcell2 hpm hym
        go_wp2_with fail
        refine DC.out.mono ?_
        rintro e w3 ⟨rfl, k3⟩
        go_wp2_with fail
        go_ret
        rw [HR.out]
        exact ⟨congrArg (fun z => Ending.returned (.string z)) (cat_bytes [39] (fm (z : Int))), K1.out.sub k3⟩
      · have c5 : (X.toList == [113, 117, 111, 116, 101]) = false := by
          have : X.toList = sq := by rw [e_tl]; exact hxd
          rw [this]
          simpa [quoteL] using hs
        have hr := HR0.out.trans (if_neg (fun h => hs (hqd.1 h).2.2))
        have HR := Lib.hid hr
        clear hr hs hxd hqd hq hq0 hcell2 hpm hym
        generalize hll : [(q : Int), (z : Int)] = l at *
        clear hl2 hlen2 e0 e1 hll
        go_wp2_with fail
        clear x0 x2 x3 x4
        go_loopw [6, 7] (fun sv i wr => ∃ (j : Nat) (s0 : List UInt8), i = .int .i64 j ∧ sv = .string ⟨s0.toArray⟩ ∧ j ≤ l.length ∧ Hid (s0 = 40 :: itemsX fm (l.take j)) ∧ Hid (Chg [] W1 wr)) (fun _ i _ => l.length - (intOf6 i).toNat)
        case atStart => exact ⟨0, [40], rfl, rfl, Nat.zero_le _, Lib.hid (by simp [itemsX]), Lib.hid (Chg.refl _ _)⟩
        case round =>
          obtain ⟨j, s0, rfl, rfl, hj, HJ, HS⟩ := hrel
          have y4 := blk_cell (BX.out wr HS.out) 4
          simp at y4
          have hl9 := HLEN.out
          rw [HR.out] at hl9
          simp only [List.length_cons, List.length_append, List.length_nil] at hl9
          by_cases hjl : j < l.length
          · have e0 : decide ((j : Int) < (l.length : Int)) = true := decide_eq_true (by omega)
            have e0' : decide (j < l.length) = true := decide_eq_true hjl
            obtain ⟨p, hp⟩ : ∃ p, l[j]? = some p := ⟨_, List.getElem?_eq_getElem hjl⟩
            have hpm := HP.out p (List.mem_of_getElem? hp)
            obtain ⟨q, rfl⟩ : ∃ q : Nat, p = (q : Int) := ⟨p.toNat, by omega⟩
            have hit := items_take fm l j _ hp
            have hle := items_le fm l (j + 1)
            obtain ⟨_, _, he, _, hq0⟩ := HRI.out wr (HO1.out.sub HS.out)
            simp only [Value.slice.injEq] at he
            obtain ⟨rfl, _, rfl⟩ := he
            obtain ⟨bb, oo, hA, hq⟩ := hq0 (by omega)
            first | subst hA | (simp only [Option.some.injEq, Addr.mk.injEq] at hA; obtain ⟨rfl, rfl, _⟩ := hA)
            have q1 := hq j _ hp
            have r0 : (0 : Int) ≤ (j : Int) := by omega
            have r1 : (j : Int) < (l.length : Int) := by omega
            have hqk : q < k := by omega
            have hsl := congrArg List.length HJ.out
            simp only [List.length_cons] at hsl
            by_cases hj0 : 0 < j
            · have g0 : decide ((0 : Int) < (j : Int)) = true := decide_eq_true (by omega)
              have g0' : decide (0 < j) = true := decide_eq_true hj0
              rw [if_pos hj0] at hit
              have hln := congrArg List.length hit
              simp only [List.length_append, List.length_singleton] at hln
              have DC3 := Lib.hid (HF.out q wr hqk (HO1.out.sub HS.out) (by omega))
              have n1 : s0.length + 1 ≤ 9223372036854775807 := by omega
              have n2 : s0.length + 1 + (fm (q : Int)).length ≤ 9223372036854775807 := by omega
              have HIT := Lib.hid hit
              clear hp hpm hle hq0 hq hl9 hln hit hj0 hsl
              go_wp2_with fail
              refine DC3.out.mono ?_
              rintro e w4 ⟨rfl, k4⟩
              have HS4 := Lib.hid (HS.out.sub k4)
              clear k4
              go_wp2_with fail
              go_roundw
              case rel => exact ⟨j + 1, s0 ++ [32] ++ fm (q : Int), by simp, by rw [← cat_bytes, ← cat_bytes], by omega, Lib.hid (by rw [HIT.out, HJ.out]; simp), HS4⟩
              case measure => simp [intOf6]; omega
            · have g0 : decide ((0 : Int) < (j : Int)) = false := decide_eq_false (by omega)
              have g0' : decide (0 < j) = false := decide_eq_false hj0
              rw [if_neg hj0] at hit
              have hln := congrArg List.length hit
              simp only [List.length_append, List.length_nil] at hln
              have DC3 := Lib.hid (HF.out q wr hqk (HO1.out.sub HS.out) (by omega))
              have n2 : s0.length + (fm (q : Int)).length ≤ 9223372036854775807 := by omega
              have HIT := Lib.hid hit
              clear hp hpm hle hq0 hq hl9 hln hit hj0 hsl
              go_wp2_with fail
              refine DC3.out.mono ?_
              rintro e w4 ⟨rfl, k4⟩
              have HS4 := Lib.hid (HS.out.sub k4)
              clear k4
              go_wp2_with fail
              go_roundw
              case rel => exact ⟨j + 1, s0 ++ fm (q : Int), by simp, by rw [← cat_bytes], by omega, Lib.hid (by rw [HIT.out, HJ.out]; simp), HS4⟩
              case measure => simp [intOf6]; omega
          · have e0 : decide ((j : Int) < (l.length : Int)) = false := decide_eq_false (by omega)
            have e0' : decide (j < l.length) = false := decide_eq_false hjl
            have htk : l.take j = l := List.take_of_length_le (by omega)
            have hJ := HJ.out
            rw [htk] at hJ
            have hsl := congrArg List.length hJ
            simp only [List.length_cons] at hsl
            have n1 : s0.length + 1 ≤ 9223372036854775807 := by omega
            have HJ2 := Lib.hid hJ
            clear hJ htk hl9 hsl
            go_wp2_with fail
            go_ret
            rw [HR.out]
            refine ⟨congrArg (fun z => Ending.returned (.string z)) ((cat_bytes s0 [41]).trans ?_), K1.out.sub HS.out⟩
            rw [HJ2.out]
            rfl
    · have c5 : (kq == 3) = false := by simpa using hk3
      have hr := HR0.out.trans (if_neg (fun h => hk3 (hqd.1 h).2.1))
      have HR := Lib.hid hr
      clear hr hk3 hqd hq hq0 hcell2 hpm hym
      generalize hll : [(q : Int), (z : Int)] = l at *
      clear hl2 hlen2 e0 e1 hll
      go_wp2_with fail
      clear x0 x2 x3 x4
      go_loopw [6, 7] (fun sv i wr => ∃ (j : Nat) (s0 : List UInt8), i = .int .i64 j ∧ sv = .string ⟨s0.toArray⟩ ∧ j ≤ l.length ∧ Hid (s0 = 40 :: itemsX fm (l.take j)) ∧ Hid (Chg [] W1 wr)) (fun _ i _ => l.length - (intOf6 i).toNat)
      case atStart => exact ⟨0, [40], rfl, rfl, Nat.zero_le _, Lib.hid (by simp [itemsX]), Lib.hid (Chg.refl _ _)⟩
      case round =>
        obtain ⟨j, s0, rfl, rfl, hj, HJ, HS⟩ := hrel
        have y4 := blk_cell (BX.out wr HS.out) 4
        simp at y4
        have hl9 := HLEN.out
        rw [HR.out] at hl9
        simp only [List.length_cons, List.length_append, List.length_nil] at hl9
        by_cases hjl : j < l.length
        · have e0 : decide ((j : Int) < (l.length : Int)) = true := decide_eq_true (by omega)
          have e0' : decide (j < l.length) = true := decide_eq_true hjl
          obtain ⟨p, hp⟩ : ∃ p, l[j]? = some p := ⟨_, List.getElem?_eq_getElem hjl⟩
          have hpm := HP.out p (List.mem_of_getElem? hp)
          obtain ⟨q, rfl⟩ : ∃ q : Nat, p = (q : Int) := ⟨p.toNat, by omega⟩
          have hit := items_take fm l j _ hp
          have hle := items_le fm l (j + 1)
          obtain ⟨_, _, he, _, hq0⟩ := HRI.out wr (HO1.out.sub HS.out)
          simp only [Value.slice.injEq] at he
          obtain ⟨rfl, _, rfl⟩ := he
          obtain ⟨bb, oo, hA, hq⟩ := hq0 (by omega)
          first | subst hA | (simp only [Option.some.injEq, Addr.mk.injEq] at hA; obtain ⟨rfl, rfl, _⟩ := hA)
          have q1 := hq j _ hp
          have r0 : (0 : Int) ≤ (j : Int) := by omega
          have r1 : (j : Int) < (l.length : Int) := by omega
          have hqk : q < k := by omega
          have hsl := congrArg List.length HJ.out
          simp only [List.length_cons] at hsl
          by_cases hj0 : 0 < j
          · have g0 : decide ((0 : Int) < (j : Int)) = true := decide_eq_true (by omega)
            have g0' : decide (0 < j) = true := decide_eq_true hj0
            rw [if_pos hj0] at hit
            have hln := congrArg List.length hit
            simp only [List.length_append, List.length_singleton] at hln
            have DC3 := Lib.hid (HF.out q wr hqk (HO1.out.sub HS.out) (by omega))
            have n1 : s0.length + 1 ≤ 9223372036854775807 := by omega
            have n2 : s0.length + 1 + (fm (q : Int)).length ≤ 9223372036854775807 := by omega
            have HIT := Lib.hid hit
            clear hp hpm hle hq0 hq hl9 hln hit hj0 hsl
            go_wp2_with fail
            refine DC3.out.mono ?_
            rintro e w4 ⟨rfl, k4⟩
            have HS4 := Lib.hid (HS.out.sub k4)
            clear k4
            go_wp2_with fail
            go_roundw
            case rel => exact ⟨j + 1, s0 ++ [32] ++ fm (q : Int), by simp, by rw [← cat_bytes, ← cat_bytes], by omega, Lib.hid (by rw [HIT.out, HJ.out]; simp), HS4⟩
            case measure => simp [intOf6]; omega
          · have g0 : decide ((0 : Int) < (j : Int)) = false := decide_eq_false (by omega)
            have g0' : decide (0 < j) = false := decide_eq_false hj0
            rw [if_neg hj0] at hit
            have hln := congrArg List.length hit
            simp only [List.length_append, List.length_nil] at hln
            have DC3 := Lib.hid (HF.out q wr hqk (HO1.out.sub HS.out) (by omega))
            have n2 : s0.length + (fm (q : Int)).length ≤ 9223372036854775807 := by omega
            have HIT := Lib.hid hit
            clear hp hpm hle hq0 hq hl9 hln hit hj0 hsl
            go_wp2_with fail
            refine DC3.out.mono ?_
            rintro e w4 ⟨rfl, k4⟩
            have HS4 := Lib.hid (HS.out.sub k4)
            clear k4
            go_wp2_with fail
            go_roundw
            case rel => exact ⟨j + 1, s0 ++ fm (q : Int), by simp, by rw [← cat_bytes], by omega, Lib.hid (by rw [HIT.out, HJ.out]; simp), HS4⟩
            case measure => simp [intOf6]; omega
        · have e0 : decide ((j : Int) < (l.length : Int)) = false := decide_eq_false (by omega)
          have e0' : decide (j < l.length) = false := decide_eq_false hjl
          have htk : l.take j = l := List.take_of_length_le (by omega)
          have hJ := HJ.out
          rw [htk] at hJ
          have hsl := congrArg List.length hJ
          simp only [List.length_cons] at hsl
          have n1 : s0.length + 1 ≤ 9223372036854775807 := by omega
          have HJ2 := Lib.hid hJ
          clear hJ htk hl9 hsl
          go_wp2_with fail
          go_ret
          rw [HR.out]
          refine ⟨congrArg (fun z => Ending.returned (.string z)) ((cat_bytes s0 [41]).trans ?_), K1.out.sub HS.out⟩
          rw [HJ2.out]
          rfl
  · have c4 : ((l.length : Int) == 2) = false := by simp; omega
    have c4' : (l.length == 2) = false := by simpa using hl2
    have hr := HR0.out.trans (if_neg (fun h => hl2 (HQD.out.1 h).1))
    have HR := Lib.hid hr
    have HL2 := Lib.hid hl2
    clear hr hl2
    go_wp2_with fail
    clear x0 x2 x3 x4
    go_loopw [6, 7] (fun sv i wr => ∃ (j : Nat) (s0 : List UInt8), i = .int .i64 j ∧ sv = .string ⟨s0.toArray⟩ ∧ j ≤ l.length ∧ Hid (s0 = 40 :: itemsX fm (l.take j)) ∧ Hid (Chg [] W1 wr)) (fun _ i _ => l.length - (intOf6 i).toNat)
    case atStart => exact ⟨0, [40], rfl, rfl, Nat.zero_le _, Lib.hid (by simp [itemsX]), Lib.hid (Chg.refl _ _)⟩
    case round =>
      obtain ⟨j, s0, rfl, rfl, hj, HJ, HS⟩ := hrel
      have y4 := blk_cell (BX.out wr HS.out) 4
      simp at y4
      have hl9 := HLEN.out
      rw [HR.out] at hl9
      simp only [List.length_cons, List.length_append, List.length_nil] at hl9
      by_cases hjl : j < l.length
      · have e0 : decide ((j : Int) < (l.length : Int)) = true := decide_eq_true (by omega)
        have e0' : decide (j < l.length) = true := decide_eq_true hjl
        obtain ⟨p, hp⟩ : ∃ p, l[j]? = some p := ⟨_, List.getElem?_eq_getElem hjl⟩
        have hpm := HP.out p (List.mem_of_getElem? hp)
        obtain ⟨q, rfl⟩ : ∃ q : Nat, p = (q : Int) := ⟨p.toNat, by omega⟩
        have hit := items_take fm l j _ hp
        have hle := items_le fm l (j + 1)
        obtain ⟨_, _, he, _, hq0⟩ := HRI.out wr (HO1.out.sub HS.out)
        simp only [Value.slice.injEq] at he
        obtain ⟨rfl, _, rfl⟩ := he
        obtain ⟨bb, oo, hA, hq⟩ := hq0 (by omega)
        first | subst hA | (simp only [Option.some.injEq, Addr.mk.injEq] at hA; obtain ⟨rfl, rfl, _⟩ := hA)
        have q1 := hq j _ hp
        have r0 : (0 : Int) ≤ (j : Int) := by omega
        have r1 : (j : Int) < (l.length : Int) := by omega
        have hqk : q < k := by omega
        have hsl := congrArg List.length HJ.out
        simp only [List.length_cons] at hsl
        by_cases hj0 : 0 < j
        · have g0 : decide ((0 : Int) < (j : Int)) = true := decide_eq_true (by omega)
          have g0' : decide (0 < j) = true := decide_eq_true hj0
          rw [if_pos hj0] at hit
          have hln := congrArg List.length hit
          simp only [List.length_append, List.length_singleton] at hln
          have DC3 := Lib.hid (HF.out q wr hqk (HO1.out.sub HS.out) (by omega))
          have n1 : s0.length + 1 ≤ 9223372036854775807 := by omega
          have n2 : s0.length + 1 + (fm (q : Int)).length ≤ 9223372036854775807 := by omega
          have HIT := Lib.hid hit
          clear hp hpm hle hq0 hq hl9 hln hit hj0 hsl
          go_wp2_with fail
          refine DC3.out.mono ?_
          rintro e w4 ⟨rfl, k4⟩
          have HS4 := Lib.hid (HS.out.sub k4)
          clear k4
          go_wp2_with fail
          go_roundw
          case rel => exact ⟨j + 1, s0 ++ [32] ++ fm (q : Int), by simp, by rw [← cat_bytes, ← cat_bytes], by omega, Lib.hid (by rw [HIT.out, HJ.out]; simp), HS4⟩
          case measure => simp [intOf6]; omega
        · have g0 : decide ((0 : Int) < (j : Int)) = false := decide_eq_false (by omega)
          have g0' : decide (0 < j) = false := decide_eq_false hj0
          rw [if_neg hj0] at hit
          have hln := congrArg List.length hit
          simp only [List.length_append, List.length_nil] at hln
          have DC3 := Lib.hid (HF.out q wr hqk (HO1.out.sub HS.out) (by omega))
          have n2 : s0.length + (fm (q : Int)).length ≤ 9223372036854775807 := by omega
          have HIT := Lib.hid hit
          clear hp hpm hle hq0 hq hl9 hln hit hj0 hsl
          go_wp2_with fail
          refine DC3.out.mono ?_
          rintro e w4 ⟨rfl, k4⟩
          have HS4 := Lib.hid (HS.out.sub k4)
          clear k4
          go_wp2_with fail
          go_roundw
          case rel => exact ⟨j + 1, s0 ++ fm (q : Int), by simp, by rw [← cat_bytes], by omega, Lib.hid (by rw [HIT.out, HJ.out]; simp), HS4⟩
          case measure => simp [intOf6]; omega
      · have e0 : decide ((j : Int) < (l.length : Int)) = false := decide_eq_false (by omega)
        have e0' : decide (j < l.length) = false := decide_eq_false hjl
        have htk : l.take j = l := List.take_of_length_le (by omega)
        have hJ := HJ.out
        rw [htk] at hJ
        have hsl := congrArg List.length hJ
        simp only [List.length_cons] at hsl
        have n1 : s0.length + 1 ≤ 9223372036854775807 := by omega
        have HJ2 := Lib.hid hJ
        clear hJ htk hl9 hsl
        go_wp2_with fail
        go_ret
        rw [HR.out]
        refine ⟨congrArg (fun z => Ending.returned (.string z)) ((cat_bytes s0 [41]).trans ?_), K1.out.sub HS.out⟩
        rw [HJ2.out]
        rfl
theorem rdatum_calls {w0 : World} {vL : Value} {rs : List (Nd × Value)} {L : List Nd} (D : Dat w0 vL rs L) : ∀ (n m : Nat), m ≤ n → m ≤ L.length → RDat w0 vL m (datX L n)
  | 0, m, h, _ => fun k w hk => by omega
  | n + 1, m, h, hm => fun k w hk hold hlen => rdatum_step D (datX L n) k (rdatum_calls D n k (by omega) (by omega)) w (by omega) hold hlen
end Go.Proofs.YtomhkemdafiphaaGreatDoor.ShowC
/- The contract of few of the law ShowData; each states its conditions. -/
namespace Go.Proofs.YtomhkemdafiphaaGreatDoor.ShowC
open Go Go.RowKit Go.Proofs.YtomhkemdafiphaaGreatDoor.Heap Go.Proofs.YtomhkemdafiphaaGreatDoor.ReadP Go.Proofs.YtomhkemdafiphaaGreatDoor.TreeP Go.Proofs.YtomhkemdafiphaaGreatDoor.ShowP
open Go.Proofs.YtomhkemdafiphaaGreatDoor.ReadM (RI RN nodeC intOf6 Nodes own_cap flat5 infoNode)
open Go.Proofs.YtomhkemdafiphaaGreatDoor.Own (ob mem_ob own_slice own_keep Src app src_new min_nat max2_int min2_int max_two min_two)
open Go.Proofs.YtomhkemdafiphaaGreatDoorW.PrintWords (Kd Aside0 below_then below_alloc)
/-- a datum with its first twenty places, and forty bytes of its name -/
def cutN (x : Nd) : Nd := ⟨x.kind, x.pos, x.n, x.s.take 40, x.l.take 20⟩
theorem take_snoc {α : Type} (l : List α) (k m : Nat) (x : α) (h : l[k]? = some x) (hk : k < m) : l.take (min (k + 1) m) = l.take (min k m) ++ [x] := by
  rw [show min (k + 1) m = k + 1 from by omega, show min k m = k from by omega, List.take_add_one, h]
  rfl
theorem RN_own {w : World} {base : Nat} {v : Value} {rs : List (Nd × Value)} (h : Nodes w base v rs) (hi : ∀ p ∈ rs, RI w p.2 p.1.l) : RN w v rs := by
  obtain ⟨A, c, rfl⟩ := own_slice h
  refine ⟨A, c, rfl, own_cap h, fun hp => ?_, hi⟩
  obtain ⟨b, o, h1, _, h2⟩ := (Src.own h).pl hp (by decide)
  refine ⟨b, o, h1, fun j p hj => ?_⟩
  have f := flat5 nodeC (fun _ => rfl) rs j p hj
  exact ⟨h2 (j * 5 + 0) _ (by rw [f 0 (by omega)]; rfl), h2 (j * 5 + 1) _ (by rw [f 1 (by omega)]; rfl), h2 (j * 5 + 2) _ (by rw [f 2 (by omega)]; rfl), h2 (j * 5 + 3) _ (by rw [f 3 (by omega)]; rfl), h2 (j * 5 + 4) _ (by rw [f 4 (by omega)]; rfl)⟩
attribute [local go_sem] max2_int min2_int max_two min_two
set_option maxHeartbeats 2000000 in
set_option maxRecDepth 100000 in
theorem few_calls (rs : List (Nd × Value)) (v : Value) (w : World) (h : RN w v rs) (hnm : rs.length ≤ maxLen) :
    Calls Tryz.prog 11 #[v] w fun e w' => (∃ v' rs', e = .returned v' ∧ RN w' v' rs' ∧ rs'.map (·.1) = ((rs.map (·.1)).take 60).map cutN) ∧ Chg [] w w' := by
  obtain ⟨A, c, rfl, hc, hcell, hin⟩ := h
  have HCELL := Lib.hid hcell
  have HIN := Lib.hid hin
  generalize hn : rs.length = n at *
  have HN := Lib.hid hn
  have bn : (0 : Int) ≤ (n : Int) := by omega
  have bm : (n : Int) ≤ 9223372036854775807 := by unfold maxLen at hnm; omega
  clear hcell hin hn hnm
  go_enter Tryz.func11, Tryz.ntmps11
  go_wp2_with fail
  go_loopw [3, 8] (fun v3 i wx => ∃ (k q : Nat) (B : Option Addr) (c3 : Nat) (out : List (Nd × Value)), v3 = .slice B q c3 ∧ i = .int .i64 k ∧ k ≤ n ∧ q ≤ 60 ∧ Hid (q = out.length) ∧ Hid (wx.ownsRow w.heap.size 34 5 (.slice B q c3) q (out.flatMap nodeC)) ∧ Hid (out.map (·.1) = ((rs.map (·.1)).take (min k 60)).map cutN) ∧ Hid (∀ p ∈ out, RI w p.2 p.1.l) ∧ Hid (Chg [] w wx)) (fun _ i _ => n - (intOf6 i).toNat)
  case atStart => exact ⟨0, 0, none, 0, [], rfl, rfl, Nat.zero_le _, Nat.zero_le _, rfl, World.ownsRow_nil _ _ _ _, by simp [Hid], (fun _ h => by cases h), Chg.refl _ _⟩
  case round =>
    obtain ⟨k, q, B, c3, out, rfl, rfl, hk, hq, HQ, HO, HM, HI, HC⟩ := hrel
    by_cases hkn : k < n
    · have e0 : decide ((k : Int) < (n : Int)) = true := decide_eq_true (by omega)
      have e0' : decide (k < n) = true := decide_eq_true hkn
      obtain ⟨b, o, rfl, hcl⟩ := HCELL.out (by omega)
      obtain ⟨p, hp⟩ : ∃ p, rs[k]? = some p := ⟨_, List.getElem?_eq_getElem (by rw [HN.out]; exact hkn)⟩
      obtain ⟨a0, a1, a2, a3, a4⟩ := hcl k p hp
      have hi := HIN.out p (List.mem_of_getElem? hp)
      have hLk : (rs.map (·.1))[k]? = some p.1 := by rw [List.getElem?_map, hp]; rfl
      obtain ⟨⟨kd, pos, nv, sb, ll⟩, Lv⟩ := p
      obtain ⟨LA, Lc, hLv, hlc, hli⟩ := hi
      simp only at hLv
      subst hLv
      simp only at a0 a1 a2 a3 a4 hlc hli
      have a0 := HC.out.cell a0 (by simp)
      have a1 := HC.out.cell a1 (by simp)
      have a2 := HC.out.cell a2 (by simp)
      have a3 := HC.out.cell a3 (by simp)
      have a4 := HC.out.cell a4 (by simp)
      have p0 : (0 : Int) ≤ (k : Int) := by omega
      have p1 : (k : Int) < (n : Int) := by omega
      have p2 : (k : Int) < 9223372036854775807 := by omega
      have HLK := Lib.hid hLk
      clear hcl hp hLk
      by_cases h60 : k < 60
      · have e6 : decide ((k : Int) < 60) = true := decide_eq_true (by omega)
        have e6' : decide (k < 60) = true := decide_eq_true h60
        obtain ⟨m, hmin, m1, m2, m3⟩ := min_nat ll.length 20 20 rfl
        have bl0 : (0 : Int) ≤ (ll.length : Int) := by omega
        have hml : m ≤ Lc := by omega
        have htk : (ll.take 20).length = m := by rw [List.length_take]; omega
        have hri : RI w (.slice LA m Lc) (ll.take 20) := by
          refine ⟨LA, Lc, by rw [htk], by omega, fun hp => ?_⟩
          obtain ⟨bl, ol, hA, hc⟩ := hli (by omega)
          refine ⟨bl, ol, hA, fun j x hj => hc j x ?_⟩
          rw [List.getElem?_take] at hj
          split at hj
          · exact hj
          · cases hj
        obtain ⟨mS, hminS, s1, s2, s3⟩ := min_nat sb.length 40 40 rfl
        have bs0 : (0 : Int) ≤ (sb.length : Int) := by omega
        have hext : (⟨sb.toArray⟩ : ByteArray).extract 0 mS = ⟨(sb.take 40).toArray⟩ := by
          apply ByteArray.ext
          have : sb.take 40 = sb.take mS := by
            rcases s3 with h | h
            · rw [h, List.take_of_length_le (Nat.le_refl _), List.take_of_length_le (by omega)]
            · rw [h]
          simp [this]
        have HEXT := Lib.hid hext
        have HRI := Lib.hid hri
        have HK6 := Lib.hid h60
        obtain ⟨W1, hW1⟩ : ∃ W1, W1 = wr.alloc (.cells #[.int .u8 kd, .int .i64 pos, .int .i64 nv, .string ⟨sb.toArray⟩, .slice LA ll.length Lc] 34) := ⟨_, rfl⟩
        have hbx : W1.heap[wr.heap.size]? = some (.cells #[.int .u8 kd, .int .i64 pos, .int .i64 nv, .string ⟨sb.toArray⟩, .slice LA ll.length Lc] 34 (0, 0)) := by rw [hW1]; exact blk_new rfl
        have HW1 := Lib.hid hW1
        have HBX := Lib.hid hbx
        have K1 := Lib.hid (show Chg [] wr W1 by rw [hW1]; exact (Chg.refl [] wr).alloc _)
        clear hW1 hbx
        have hone : ∀ u ∈ [Value.int .u8 kd, .int .i64 pos, .int .i64 nv, .string ⟨(sb.take 40).toArray⟩, .slice LA m Lc], u.oneCell' = true := by
          intro u hu
          simp at hu
          rcases hu with rfl | rfl | rfl | rfl | rfl <;> rfl
        have HONE := Lib.hid hone
        have hq2 : q < 60 := by
          have h1 := congrArg List.length HM.out
          have h2 := HQ.out
          have h3 := HN.out
          simp only [List.length_map, List.length_take] at h1
          omega
        clear hri hli hone htk h60 hext
        go_upto_region 6 with fail
        rw [← show W1 = _ from HW1]
        have x3 := blk_cell HBX.out 3
        have x4 := blk_cell HBX.out 4
        have f3 := blk_frozen HBX.out 3
        have f4 := blk_frozen HBX.out 4
        simp at x3 x4
        go_region
        rw [HEXT.out]
        obtain ⟨W2, hW2⟩ : ∃ W2, W2 = ((W1.setCell ⟨wr.heap.size, 4, none⟩ (.slice LA m Lc)).setCell ⟨wr.heap.size, 3, none⟩ (.string ⟨(sb.take 40).toArray⟩)).drew := ⟨_, rfl⟩
        have hb2 : W2.heap[wr.heap.size]? = some (.cells #[.int .u8 kd, .int .i64 pos, .int .i64 nv, .string ⟨(sb.take 40).toArray⟩, .slice LA m Lc] 34 (0, 0)) := by
          rw [hW2]
          have := blk_set (blk_set HBX.out 4 (.slice LA m Lc)) 3 (.string ⟨(sb.take 40).toArray⟩)
          have e : ∀ W : World, W.drew.heap = W.heap := fun _ => rfl
          rw [e]
          simpa using this
        have hk2 : Chg [] wr W2 := by
          rw [hW2]
          have k9 : Chg [wr.heap.size] W1 ((W1.setCell ⟨wr.heap.size, 4, none⟩ (.slice LA m Lc)).setCell ⟨wr.heap.size, 3, none⟩ (.string ⟨(sb.take 40).toArray⟩)) := ((Chg.refl [wr.heap.size] W1).set _ _ (.inl (List.mem_singleton.2 rfl))).set _ _ (.inl (List.mem_singleton.2 rfl))
          exact (K1.out.trans k9 (fun b hb => .inr (by rw [List.mem_singleton.1 hb]; exact Nat.le_refl _))).drew
        have K2 := Lib.hid hk2
        rw [← hW2]
        have y0 := blk_cell hb2 0
        have y1 := blk_cell hb2 1
        have y2 := blk_cell hb2 2
        have y3 := blk_cell hb2 3
        have y4 := blk_cell hb2 4
        simp at y0 y1 y2 y3 y4
        clear hW2 hb2 hk2 x3 x4 f3 f4
        go_wp2_with (at_builtin; refine app rfl (.tmp 31) (.tmp 33) 22 rfl w.heap.size 34 _ 5 64 Tryz.underlying22 infoNode rfl (by decide) (by decide) (.slice B q c3) q (out.flatMap nodeC) rfl (own_keep HO.out (K2.out.alloc _) (by simp)) _ 1 [.int .u8 kd, .int .i64 pos, .int .i64 nv, .string ⟨(sb.take 40).toArray⟩, .slice LA m Lc] rfl (src_new _ _ _ _ _ _ rfl (by simp)) HONE.out (Nat.le_trans HC.out.size (K2.out.alloc _).size) (by omega) ?_; intro B5 c5 w5 ho5 hc5 hb5; have HO5 := Lib.hid ho5; have HC5 := Lib.hid hc5; clear ho5 hc5 hb5)
        go_roundw
        case rel =>
          refine ⟨k + 1, q + 1, B5, c5, out ++ [(⟨kd, pos, nv, sb.take 40, ll.take 20⟩, .slice LA m Lc)], rfl, by simp, by omega, by omega, ?_, ?_, ?_, ?_, ?_⟩
          · have := HQ.out
            refine Lib.hid ?_
            simp; omega
          · refine Lib.hid ?_
            rw [List.flatMap_append, List.flatMap_singleton]
            exact HO5.out
          · refine Lib.hid ?_
            rw [take_snoc _ k 60 _ HLK.out HK6.out, List.map_append, List.map_append, ← show out.map (·.1) = _ from HM]
            rfl
          · refine Lib.hid (fun p hp => ?_)
            rcases List.mem_append.1 hp with hp | hp
            · exact HI.out p hp
            · have : p = _ := List.mem_singleton.1 hp
              subst this
              exact HRI.out
          · exact Lib.hid ((HC.out.sub (K2.out.alloc _)).trans HC5.out (fun b hb => .inr (HO.out.lt b (mem_ob.1 hb)).1))
        case measure => simp [intOf6]; omega
      · have e6 : decide ((k : Int) < 60) = false := decide_eq_false (by omega)
        have e6' : decide (k < 60) = false := decide_eq_false h60
        clear hli
        go_wp2_with fail
        go_roundw
        case rel =>
          refine ⟨k + 1, q, B, c3, out, rfl, by simp, by omega, hq, HQ, Lib.hid (own_keep HO.out ((Chg.refl [] wr).alloc _) (by simp)), Lib.hid ?_, HI, Lib.hid (HC.out.alloc _)⟩
          rw [show min (k + 1) 60 = min k 60 from by omega]
          exact HM.out
        case measure => simp [intOf6]; omega
    · have e0 : decide ((k : Int) < (n : Int)) = false := decide_eq_false (by omega)
      have e0' : decide (k < n) = false := decide_eq_false hkn
      go_wp2_with fail
      go_ret
      refine ⟨⟨_, rfl, out, ?_, ?_⟩, HC.out⟩
      · have hNn : Nodes wr w.heap.size (.slice B q c3) out := by
          unfold Nodes
          rw [← HQ.out]
          exact HO.out
        exact RN_own hNn (fun p hp => (HI.out p hp).chg HC.out)
      · rw [show out.map (·.1) = _ from HM, show (rs.map (·.1)).take (min k 60) = (rs.map (·.1)).take 60 from by
          by_cases h6 : k ≤ 60
          · rw [show min k 60 = k from by omega, List.take_of_length_le (by rw [List.length_map]; have := HN.out; omega), List.take_of_length_le (by rw [List.length_map]; have := HN.out; omega)]
          · rw [show min k 60 = 60 from by omega]]
        rw [List.map_take, List.map_map]

end Go.Proofs.YtomhkemdafiphaaGreatDoor.ShowC

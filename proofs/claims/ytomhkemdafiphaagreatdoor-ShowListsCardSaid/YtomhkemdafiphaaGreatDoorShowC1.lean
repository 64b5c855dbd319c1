/- The contract of datum of layer 7 (show); each states its conditions. -/
import Derived.Test.YtomhkemdafiphaaGreatDoorShowB
import Derived.Test.YtomhkemdafiphaaGreatDoorShowP
import Derived.Test.YtomhkemdafiphaaGreatDoorReadK
import Derived.Lib.AppendIntMem
import Derived.StillTailTactics
namespace Go.Proofs.YtomhkemdafiphaaGreatDoor.ShowC
open Go Go.RowKit Go.Proofs.YtomhkemdafiphaaGreatDoor.Heap Go.Proofs.YtomhkemdafiphaaGreatDoor.ReadP Go.Proofs.YtomhkemdafiphaaGreatDoor.TreeP Go.Proofs.YtomhkemdafiphaaGreatDoor.ShowP Go.Proofs.YtomhkemdafiphaaGreatDoor.ShowB
open Go.Proofs.YtomhkemdafiphaaGreatDoor.ReadM (RI RN nodeC intOf6)
open Go.Lib (itoa byteCells)
/-- the table that numbers are written by -/
def Tab (w : World) : Prop := Lib.TabIs Tryz.prog w "internal/strconv.uint64pow10" .u64 Lib.pow10Tab
theorem Tab.below {w w' : World} (h : Tab w) (k : Below w.heap.size w w') : Tab w' := Lib.tabBelow_of_tabIs h w' k
theorem Tab.chg {w w' : World} (h : Tab w) (k : Chg [] w w') : Tab w' := h.below k.below
theorem itoa_calls (n : Int) (h0 : -9223372036854775808 ≤ n) (h1 : n < 9223372036854775808) (w : World) (h : Tab w) :
    Calls Tryz.prog 44 #[.int .i64 n] w fun e w' => e = .returned (.string ⟨(itoa n).toArray⟩) ∧ Chg [] w w' := by
  refine (Tryz.strconv_Itoa n h0 (by omega) w h).mono ?_
  rintro e w' ⟨rfl, k, os, rfl⟩
  exact ⟨rfl, Chg.of_below (Lib.below_grow w.heap.size w (Nat.le_refl _) k os)⟩
theorem truth_calls (x : Bool) (w : World) : Calls Tryz.prog 45 #[.bool x] w fun e w' => e = .returned (.string ⟨(markB x).toArray⟩) ∧ w = w' := by
  cases x with
  | true =>
    go_enter Tryz.func45, Tryz.ntmps45
    go_wp2_with fail
    go_ret
    exact ⟨rfl, rfl⟩
  | false =>
    go_enter Tryz.func45, Tryz.ntmps45
    go_wp2_with fail
    go_ret
    exact ⟨rfl, rfl⟩
/-- the data that are shown -/
structure Dat (w0 : World) (vL : Value) (rs : List (Nd × Value)) (L : List Nd) : Prop where
  rn : RN w0 vL rs
  map : rs.map (·.1) = L
  len : L.length ≤ 10000
  lens : ∀ x ∈ L, x.l.length ≤ 10000
  ahead : Ahead L
  wf : ∀ x ∈ L, -9223372036854775808 ≤ x.n ∧ x.n < 9223372036854775808
theorem nd_at {L : List Nd} {k : Nat} {x : Nd} (h : L[k]? = some x) : nd L (k : Int) = x := by
  unfold nd
  rw [Int.toNat_natCast, List.getD_eq_getElem?_getD, h]; rfl
theorem nd_nth {L : List Nd} {k : Nat} (hk : k < L.length) : L[k]? = some (nd L (k : Int)) := by
  obtain ⟨x, hx⟩ : ∃ x, L[k]? = some x := ⟨_, List.getElem?_eq_getElem hk⟩
  rw [nd_at hx]; exact hx
/-- the data's cells, wherever blocks that were there stand yet -/
theorem Dat.all {w0 : World} {vL : Value} {rs : List (Nd × Value)} {L : List Nd} (D : Dat w0 vL rs L) (hp : 0 < L.length) : ∃ b o c, vL = .slice (some ⟨b, o, none⟩) L.length c ∧ ∀ k : Nat, k < L.length → ∃ LA Lc, (nd L (k : Int)).l.length ≤ Lc ∧
    (∀ W, Chg [] w0 W → W.cell? ⟨b, o + k * 5, none⟩ = some (.int .u8 (nd L k).kind) ∧ W.cell? ⟨b, o + k * 5 + 1, none⟩ = some (.int .i64 (nd L k).pos) ∧ W.cell? ⟨b, o + k * 5 + 2, none⟩ = some (.int .i64 (nd L k).n) ∧ W.cell? ⟨b, o + k * 5 + 3, none⟩ = some (.string ⟨(nd L k).s.toArray⟩) ∧ W.cell? ⟨b, o + k * 5 + 4, none⟩ = some (.slice LA (nd L k).l.length Lc)) ∧
    (∀ W, Chg [] w0 W → RI W (.slice LA (nd L k).l.length Lc) (nd L k).l) := by
  obtain ⟨A, c, hv, hc, hcell, hin⟩ := D.rn
  have hlen : rs.length = L.length := by rw [← D.map, List.length_map]
  obtain ⟨b, o, rfl, h2⟩ := hcell (by omega)
  refine ⟨b, o, c, by rw [hv, hlen], fun k hk => ?_⟩
  obtain ⟨p, hp⟩ : ∃ p, rs[k]? = some p := ⟨_, List.getElem?_eq_getElem (by omega)⟩
  have hx : nd L (k : Int) = p.1 := nd_at (by rw [← D.map, List.getElem?_map, hp]; rfl)
  obtain ⟨a0, a1, a2, a3, a4⟩ := h2 k p hp
  have hi := hin p (List.mem_of_getElem? hp)
  obtain ⟨LA, Lc, hLv, hlc, _⟩ := id hi
  rw [hx]
  rw [hLv] at a4 hi
  exact ⟨LA, Lc, hlc, fun W hW => ⟨hW.cell a0 (by simp), hW.cell a1 (by simp), hW.cell a2 (by simp), hW.cell a3 (by simp), hW.cell a4 (by simp)⟩, fun W hW => hi.chg hW⟩
theorem el_at {l : List Int} {k : Nat} (h : k < l.length) : l[k]? = some (el l k) := by
  unfold el
  rw [List.getD_eq_getElem?_getD, List.getElem?_eq_getElem h]; rfl
theorem more_take (fm : Int → List UInt8) : ∀ (l : List Int) (j : Nat) (p : Int), l[j]? = some p → moreX fm (l.take (j + 1)) = moreX fm (l.take j) ++ 32 :: fm p
  | [], _, _, h => by simp at h
  | q :: l, 0, p, h => by
    have : q = p := by simpa using h
    subst this
    simp [moreX]
  | q :: l, j + 1, p, h => by
    have := more_take fm l j p (by simpa using h)
    simp only [List.take_succ_cons, moreX, this]
    simp
theorem items_take (fm : Int → List UInt8) (l : List Int) (j : Nat) (p : Int) (h : l[j]? = some p) : itemsX fm (l.take (j + 1)) = itemsX fm (l.take j) ++ (if 0 < j then [32] else []) ++ fm p := by
  cases l with
  | nil => simp at h
  | cons q l =>
    cases j with
    | zero =>
      have : q = p := by simpa using h
      subst this
      simp [itemsX, moreX]
    | succ j =>
      have := more_take fm l j p (by simpa using h)
      simp only [List.take_succ_cons, itemsX, this]
      simp
theorem more_le (fm : Int → List UInt8) : ∀ (l : List Int) (j : Nat), (moreX fm (l.take j)).length ≤ (moreX fm l).length
  | [], _ => by simp
  | q :: l, 0 => by simp [moreX]
  | q :: l, j + 1 => by
    have := more_le fm l j
    simp only [List.take_succ_cons, moreX, List.length_cons, List.length_append]
    omega
theorem items_le (fm : Int → List UInt8) (l : List Int) (j : Nat) : (itemsX fm (l.take j)).length ≤ (itemsX fm l).length := by
  cases l with
  | nil => simp
  | cons q l =>
    cases j with
    | zero => simp [itemsX]
    | succ j =>
      have := more_le fm l j
      simp only [List.take_succ_cons, itemsX, List.length_append]
      omega
theorem e_tl (s : ByteArray) : s.toList = s.data.toList := by
  obtain ⟨⟨l⟩⟩ := s
  exact ByteArray.toList_mk l
theorem writeC {w : World} {B b : Nat} {T : TypeId} {rest : List Value} {t : List UInt8} (h : IsB w B b T rest t) (c : UInt8) (cv : Int) (hc : (c.toNat : Int) = cv) (hlen : t.length + 1 ≤ 140737488355328) :
    Calls Tryz.prog 46 #[.pointer (some ⟨b, 0, none⟩), .int .u8 cv] w fun e w' => e = .returned .nilIface ∧ BAt w' B b T rest (.pointer (some ⟨b, 0, none⟩)) (t ++ [c]) ∧ Fr B b w w' := by
  subst hc
  exact writeB_calls h c hlen
/-- what is written of a datum -/
def DatCon (w0 : World) (vL : Value) (B b : Nat) (T : TypeId) (rest : List Value) (m : Nat) (fm : Int → List UInt8) : Prop := ∀ (k : Nat) (w : World) (t : List UInt8), k < m → Chg [] w0 w → IsB w B b T rest t → t.length + (fm (k : Int)).length ≤ 1000000000 →
  Calls Tryz.prog 29 #[.pointer (some ⟨b, 0, none⟩), vL, .int .i64 (k : Int)] w (fun e w' => e = .returned (.tuple #[]) ∧ BAt w' B b T rest (.pointer (some ⟨b, 0, none⟩)) (t ++ fm (k : Int)) ∧ Fr B b w w')
set_option maxHeartbeats 8000000 in
set_option maxRecDepth 100000 in
theorem datum_step {w0 : World} {vL : Value} {rs : List (Nd × Value)} {L : List Nd} (D : Dat w0 vL rs L) (hT : Tab w0) {B b : Nat} {T : TypeId} {rest : List Value} (hB : w0.heap.size ≤ B) (fm : Int → List UInt8) (k : Nat) (F : DatCon w0 vL B b T rest k fm) (w : World) (t : List UInt8) (hk : k < L.length) (hold : Chg [] w0 w) (hb : IsB w B b T rest t) (hlen : t.length + (datS fm L (k : Int)).length ≤ 1000000000) :
    Calls Tryz.prog 29 #[.pointer (some ⟨b, 0, none⟩), vL, .int .i64 (k : Int)] w (fun e w' => e = .returned (.tuple #[]) ∧ BAt w' B b T rest (.pointer (some ⟨b, 0, none⟩)) (t ++ datS fm L (k : Int)) ∧ Fr B b w w') := by
  obtain ⟨b1, o1, c1, rfl, hall⟩ := D.all (by omega)
  obtain ⟨LA, Lc, hlc, hcell, hri⟩ := hall k hk
  obtain ⟨a0, a1, a2, a3, a4⟩ := hcell w hold
  have HALL := Lib.hid hall
  have HF := Lib.hid F
  have hwf := D.wf _ (List.mem_of_getElem? (nd_nth hk))
  have hlens := D.lens _ (List.mem_of_getElem? (nd_nth hk))
  have hpart : ∀ p ∈ (nd L (k : Int)).l, 0 ≤ p ∧ p < k := fun p hp => D.ahead k _ (nd_nth hk) p hp
  have hBw : B ≤ w.heap.size := by obtain ⟨_, h⟩ := hb.get; exact h.lt
  have hans : datS fm L (k : Int) = (if (nd L (k : Int)).kind = 1 then itoa (nd L (k : Int)).n
    else if (nd L (k : Int)).kind = 2 then markB (decide ((nd L (k : Int)).n = 1))
    else if (nd L (k : Int)).kind = 3 then (nd L (k : Int)).s
    else if isQuoted L (k : Int) then 39 :: fm (el (nd L (k : Int)).l 1)
    else 40 :: (itemsX fm (nd L (k : Int)).l ++ [41])) := rfl
  have hqd : isQuoted L (k : Int) ↔ (nd L (k : Int)).l.length = 2 ∧ (nd L (el (nd L (k : Int)).l 0)).kind = 3 ∧ (nd L (el (nd L (k : Int)).l 0)).s = quoteL := Iff.rfl
  generalize hx : nd L (k : Int) = x at *
  obtain ⟨kd, pos, n, s, l⟩ := x
  simp only at a0 a1 a2 a3 a4 hlc hlens hri hwf hpart hans hqd
  have p0 : (0 : Int) ≤ (k : Int) := by omega
  have p1 : (k : Int) < (L.length : Int) := by omega
  obtain ⟨W1, hW1⟩ : ∃ W1, W1 = w.alloc (.cells #[.int .u8 kd, .int .i64 pos, .int .i64 n, .string ⟨s.toArray⟩, .slice LA l.length Lc] 34) := ⟨_, rfl⟩
  have k1 : Chg [] w W1 := by rw [hW1]; exact (Chg.refl [] w).alloc _
  have hbx : W1.heap[w.heap.size]? = some (.cells #[.int .u8 kd, .int .i64 pos, .int .i64 n, .string ⟨s.toArray⟩, .slice LA l.length Lc] 34 (0, 0)) := by rw [hW1]; exact blk_new rfl
  have HW1 := Lib.hid hW1
  have K1 := Lib.hid k1
  have HBX := Lib.hid hbx
  have HB1 := Lib.hid (hb.chg k1)
  have HF1 := Lib.hid (Fr.chg (b := b) k1 hBw)
  have HO1 := Lib.hid (hold.sub k1)
  have hbne : w.heap.size ≠ b := by
    obtain ⟨_, h⟩ := hb.get
    obtain ⟨_, h, _⟩ := h.blk
    have := blk_lt h
    omega
  have HBN := Lib.hid hbne
  have HANS := Lib.hid hans
  have HLEN := Lib.hid hlen
  have HRI := Lib.hid hri
  have HP := Lib.hid hpart
  have HQD := Lib.hid hqd
  have HD := Lib.hid D
  have HTB := Lib.hid hT
  have HWF := Lib.hid hwf
  clear hW1 k1 hbx hb hall hcell hri hpart hans hqd hlen F D hT hwf hold hx
  go_enter Tryz.func29, Tryz.ntmps29
  go_upto_region 1 with fail
  rw [← show W1 = _ from HW1]
  have x0 := blk_cell HBX.out 0
  have x2 := blk_cell HBX.out 2
  have x3 := blk_cell HBX.out 3
  have x4 := blk_cell HBX.out 4
  simp at x0 x2 x3 x4
  clear a0 a1 a2 a3 a4
  by_cases h1 : kd = 1
  · subst h1
    have hr := HANS.out.trans (if_pos rfl)
    have HR := Lib.hid hr
    have IC := Lib.hid (itoa_calls n HWF.out.1 HWF.out.2 W1 (HTB.out.chg HO1.out))
    have hl9 := HLEN.out
    rw [hr] at hl9
    have WC := Lib.hid (fun w2 (k2 : Chg [] W1 w2) => writeS_calls (HB1.out.chg k2) ⟨(itoa n).toArray⟩ (by show t.length + (itoa n).toArray.size ≤ _; simp; omega))
    clear hr hl9
    go_wp2_with fail
    refine IC.out.mono ?_
    rintro e w2 ⟨rfl, k2⟩
    have WC2 := Lib.hid (WC.out w2 k2)
    have K2 := Lib.hid k2
    clear k2
    go_wp2_with fail
    refine WC2.out.mono ?_
    rintro e w3 ⟨rfl, hA, hS⟩
    have HA := Lib.hid hA
    have HS := Lib.hid ((HF1.out.trans (Fr.chg K2.out (by have := K1.out.size; omega))).trans hS)
    clear hA hS
    go_wp2_with fail
    refine bodyPost_ret (results_none rfl _ _ _) rfl ?_
    rw [HR.out]
    exact ⟨rfl, by simpa using HA.out, HS.out⟩
  have c1 : (kd == 1) = false := by simpa using h1
  by_cases h2 : kd = 2
  · subst h2
    have hr := HANS.out.trans ((if_neg h1).trans (if_pos rfl))
    have HR := Lib.hid hr
    have hl9 := HLEN.out
    rw [hr] at hl9
    have WC := Lib.hid (writeS_calls HB1.out ⟨(markB (n == 1)).toArray⟩ (by show t.length + (markB (n == 1)).toArray.size ≤ _; unfold markB; split <;> simp <;> omega))
    clear hr hl9
    go_wp2_with fail
    refine (truth_calls _ _).mono ?_
    rintro e w2 ⟨rfl, rfl⟩
    go_wp2_with fail
    refine WC.out.mono ?_
    rintro e w3 ⟨rfl, hA, hS⟩
    have HA := Lib.hid hA
    have HS := Lib.hid (HF1.out.trans hS)
    clear hA hS
    go_wp2_with fail
    refine bodyPost_ret (results_none rfl _ _ _) rfl ?_
    rw [HR.out]
    have hm : decide (n = 1) = (n == 1) := by by_cases h : n = 1 <;> simp [h]
    rw [hm]
    exact ⟨rfl, by simpa using HA.out, HS.out⟩
  have c2 : (kd == 2) = false := by simpa using h2
  by_cases h3 : kd = 3
  · subst h3
    have hr := HANS.out.trans ((if_neg h1).trans ((if_neg h2).trans (if_pos rfl)))
    have HR := Lib.hid hr
    have hl9 := HLEN.out
    rw [hr] at hl9
    have WC := Lib.hid (writeS_calls HB1.out ⟨s.toArray⟩ (by show t.length + s.toArray.size ≤ _; simp; omega))
    clear hr hl9
    go_wp2_with fail
    refine WC.out.mono ?_
    rintro e w3 ⟨rfl, hA, hS⟩
    have HA := Lib.hid hA
    have HS := Lib.hid (HF1.out.trans hS)
    clear hA hS
    go_wp2_with fail
    refine bodyPost_ret (results_none rfl _ _ _) rfl ?_
    rw [HR.out]
    exact ⟨rfl, by simpa using HA.out, HS.out⟩
  have c3 : (kd == 3) = false := by simpa using h3
  have hr := HANS.out.trans ((if_neg h1).trans ((if_neg h2).trans (if_neg h3)))
  have HR0 := Lib.hid hr
  have BX : Hid (∀ w', Fr B b W1 w' → w'.heap[w.heap.size]? = some (.cells #[.int .u8 kd, .int .i64 pos, .int .i64 n, .string ⟨s.toArray⟩, .slice LA l.length Lc] 34 (0, 0))) := Lib.hid (fun w' h => h.kept _ _ _ _ HBX.out HBN.out (by decide))
  have bl0 : (0 : Int) ≤ (l.length : Int) := by omega
  have bl1 : (l.length : Int) ≤ 10000 := by omega
  clear hr h1 h2 h3
-- LIST BEGINS
  have WC1 : Hid (Calls Tryz.prog 46 #[.pointer (some ⟨b, 0, none⟩), .int .u8 40] W1 fun e w' => e = .returned .nilIface ∧ BAt w' B b T rest (.pointer (some ⟨b, 0, none⟩)) (t ++ [40]) ∧ Fr B b W1 w') := Lib.hid (writeC HB1.out 40 40 rfl (by have := HLEN.out; omega))
  by_cases hl2 : l.length = 2
  · have c4 : ((l.length : Int) == 2) = true := by simp; omega
    have c4' : (l.length == 2) = true := by simpa using hl2
    obtain ⟨p, y, rfl⟩ : ∃ p y, l = [p, y] := by
      match l, hl2 with
      | [p, y], _ => exact ⟨p, y, rfl⟩
    have hpm := HP.out p (by simp)
    have hym := HP.out y (by simp)
    obtain ⟨q, rfl⟩ : ∃ q : Nat, p = (q : Int) := ⟨p.toNat, by omega⟩
    obtain ⟨z, rfl⟩ : ∃ z : Nat, y = (z : Int) := ⟨y.toNat, by omega⟩
    obtain ⟨LA2, Lc2, _, hcell2, _⟩ := HALL.out q (by omega)
    obtain ⟨u0, _, _, u3, _⟩ := hcell2 W1 HO1.out
    obtain ⟨_, _, he, _, hq0⟩ := HRI.out W1 HO1.out
    simp only [Value.slice.injEq] at he
    obtain ⟨rfl, _, rfl⟩ := he
    obtain ⟨bb, oo, hA, hq⟩ := hq0 (by simp)
    subst hA
    have q0 := hq 0 _ rfl
    have q1 := hq 1 _ rfl
    have hqd := HQD.out
    have e0 : el [(q : Int), (z : Int)] 0 = (q : Int) := rfl
    have e1 : el [(q : Int), (z : Int)] 1 = (z : Int) := rfl
    rw [e0] at hqd
    rw [e1] at HR0
    generalize (nd L (q : Int)).kind = kq at u0 hqd
    generalize (nd L (q : Int)).s = sq at u3 hqd
    have pq0 : (0 : Int) ≤ (q : Int) := by omega
    have pq1 : (q : Int) < (L.length : Int) := by omega
    have i0 : (0 : Int) < (([(q : Int), (z : Int)].length : Nat) : Int) := by simp
    have i1 : (1 : Int) < (([(q : Int), (z : Int)].length : Nat) : Int) := by simp
    have hzk : z < k := by omega
    have hlen2 : [(q : Int), (z : Int)].length = 2 := rfl
    rw [Nat.add_zero] at q0
    have QK : Hid (∀ w', Fr B b W1 w' → w'.cell? ⟨bb, oo + 1, none⟩ = some (.int .i64 (z : Int))) := Lib.hid (fun w' h => by
      obtain ⟨_, _, he, _, hq0⟩ := HRI.out w' (h.old HO1.out hB)
      simp only [Value.slice.injEq] at he
      obtain ⟨rfl, _, rfl⟩ := he
      obtain ⟨_, _, hA, hq⟩ := hq0 (by simp)
      simp only [Option.some.injEq, Addr.mk.injEq] at hA
      obtain ⟨rfl, rfl, _⟩ := hA
      exact hq 1 _ rfl)
    by_cases hk3 : kq = 3
    · subst hk3
      have hxd : (⟨sq.toArray⟩ : ByteArray).data.toList = sq := by simp
      generalize (⟨sq.toArray⟩ : ByteArray) = X at u3 hxd
      by_cases hs : sq = quoteL
      · have c5 : (X.toList == [113, 117, 111, 116, 101]) = true := by
          have : X.toList = sq := by rw [e_tl]; exact hxd
          rw [this, hs]; rfl
        have hr := HR0.out.trans (if_pos (hqd.2 ⟨rfl, rfl, hs⟩))
        have HR := Lib.hid hr
        have hl9 := HLEN.out
        rw [hr, List.length_cons] at hl9
        have WC4 : Hid (Calls Tryz.prog 46 #[.pointer (some ⟨b, 0, none⟩), .int .u8 39] W1 fun e w' => e = .returned .nilIface ∧ BAt w' B b T rest (.pointer (some ⟨b, 0, none⟩)) (t ++ [39]) ∧ Fr B b W1 w') := Lib.hid (writeC HB1.out 39 39 rfl (by omega))
        have DC := Lib.hid (fun w3 (h3 : BAt w3 B b T rest (.pointer (some ⟨b, 0, none⟩)) (t ++ [39])) (k3 : Fr B b W1 w3) => HF.out z w3 _ hzk (k3.old HO1.out hB) (.inr h3) (by simp only [List.length_append, List.length_cons, List.length_nil]; omega))
        clear hr hl9 hs hxd hqd hq hq0 hcell2 hpm hym WC1
        go_wp2_with fail
        refine WC4.out.mono ?_
        rintro e w2 ⟨rfl, hA, hS⟩
        have HS2 := Lib.hid hS
        have DC2 := Lib.hid (DC.out w2 hA hS)
        have y4 := blk_cell (BX.out w2 hS) 4
        simp at y4
        have y1 := QK.out w2 hS
        clear hA hS x0 x2 x3 x4 u0 u3 q0 q1 DC
        go_wp2_with fail
        refine DC2.out.mono ?_
        rintro e w3 ⟨rfl, hA, hS⟩
        have HA3 := Lib.hid hA
        have HS3 := Lib.hid ((HF1.out.trans HS2.out).trans hS)
        clear hA hS
        go_wp2_with fail
        refine bodyPost_ret (results_none rfl _ _ _) rfl ?_
        rw [HR.out]
        exact ⟨rfl, by have h := HA3.out; simp only [List.append_assoc, List.cons_append, List.nil_append] at h ⊢; exact h, HS3.out⟩
      · have c5 : (X.toList == [113, 117, 111, 116, 101]) = false := by
          have : X.toList = sq := by rw [e_tl]; exact hxd
          rw [this]
          simpa [quoteL] using hs
        have hr := HR0.out.trans (if_neg (fun h => hs (hqd.1 h).2.2))
        have HR := Lib.hid hr
        clear hr hs hxd hqd hq hq0 hcell2 hpm hym
        generalize hll : [(q : Int), (z : Int)] = l at *
        go_wp2_with fail
        refine WC1.out.mono ?_
        rintro e w2 ⟨rfl, hA, hS⟩
        have HA2 := Lib.hid hA
        have HS2 := Lib.hid hS
        have y4 := blk_cell (BX.out w2 hS) 4
        simp at y4
        clear hA hS x0 x2 x3 x4
        go_wp2_with fail
        go_loopw [7, 8, 76] (fun _ _ i wr => ∃ j : Nat, i = .int .i64 j ∧ j ≤ l.length ∧ Hid (BAt wr B b T rest (.pointer (some ⟨b, 0, none⟩)) (t ++ 40 :: itemsX fm (l.take j))) ∧ Hid (Fr B b W1 wr)) (fun _ _ i _ => l.length - (intOf6 i).toNat)
        case atStart => exact ⟨0, rfl, Nat.zero_le _, Lib.hid (by simpa [itemsX] using HA2.out), HS2⟩
        case round =>
          obtain ⟨j, rfl, hj, HJ, HS⟩ := hrel
          by_cases hjl : j < l.length
          · have e0 : decide ((j : Int) < (l.length : Int)) = true := decide_eq_true (by omega)
            have e0' : decide (j < l.length) = true := decide_eq_true hjl
            obtain ⟨p, hp⟩ : ∃ p, l[j]? = some p := ⟨_, List.getElem?_eq_getElem hjl⟩
            have hpm := HP.out p (List.mem_of_getElem? hp)
            obtain ⟨q, rfl⟩ : ∃ q : Nat, p = (q : Int) := ⟨p.toNat, by omega⟩
            have hit := items_take fm l j _ hp
            have hle := items_le fm l (j + 1)
            obtain ⟨_, _, he, _, hq0⟩ := HRI.out wr (HS.out.old HO1.out hB)
            simp only [Value.slice.injEq] at he
            obtain ⟨rfl, _, rfl⟩ := he
            obtain ⟨bb, oo, hA, hq⟩ := hq0 (by omega)
            first | subst hA | (simp only [Option.some.injEq, Addr.mk.injEq] at hA; obtain ⟨rfl, rfl, _⟩ := hA)
            have q1 := hq j _ hp
            have r0 : (0 : Int) ≤ (j : Int) := by omega
            have r1 : (j : Int) < (l.length : Int) := by omega
            have hl9 := HLEN.out
            rw [HR.out] at hl9
            simp only [List.length_cons, List.length_append, List.length_nil] at hl9
            have hqk : q < k := by omega
            by_cases hj0 : 0 < j
            · have g0 : decide ((0 : Int) < (j : Int)) = true := decide_eq_true (by omega)
              have g0' : decide (0 < j) = true := decide_eq_true hj0
              rw [if_pos hj0] at hit
              have hln := congrArg List.length hit
              simp only [List.length_append, List.length_singleton] at hln
              have WC2 := Lib.hid (writeC (.inr HJ.out) 32 32 rfl (by rw [List.length_append, List.length_cons]; omega))
              have DC := Lib.hid (fun w3 (h3 : BAt w3 B b T rest (.pointer (some ⟨b, 0, none⟩)) ((t ++ 40 :: itemsX fm (l.take j)) ++ [32])) (k3 : Fr B b W1 w3) => HF.out q w3 _ hqk (k3.old HO1.out hB) (.inr h3) (by simp only [List.length_append, List.length_cons, List.length_nil]; omega))
              have HIT := Lib.hid hit
              clear hp hpm hle hq0 hq hl9 hln hit hj0
              go_wp2_with fail
              refine WC2.out.mono ?_
              rintro e w3 ⟨rfl, hA3, hS3⟩
              have HS3 := Lib.hid (HS.out.trans hS3)
              have DC3 := Lib.hid (DC.out w3 hA3 HS3.out)
              clear hA3 hS3 DC
              go_wp2_with fail
              refine DC3.out.mono ?_
              rintro e w4 ⟨rfl, hA4, hS4⟩
              have HA4 := Lib.hid hA4
              have HS4 := Lib.hid (HS3.out.trans hS4)
              clear hA4 hS4
              go_wp2_with fail
              go_roundw
              case rel => exact ⟨j + 1, by simp, by omega, Lib.hid (by rw [HIT.out]; have h := HA4.out; simp only [List.append_assoc, List.cons_append, List.nil_append] at h ⊢; exact h), HS4⟩
              case measure => simp [intOf6]; omega
            · have g0 : decide ((0 : Int) < (j : Int)) = false := decide_eq_false (by omega)
              have g0' : decide (0 < j) = false := decide_eq_false hj0
              rw [if_neg hj0] at hit
              have hln := congrArg List.length hit
              simp only [List.length_append, List.length_nil] at hln
              have DC3 := Lib.hid (HF.out q wr _ hqk (HS.out.old HO1.out hB) (.inr HJ.out) (by simp only [List.length_append, List.length_cons]; omega))
              have HIT := Lib.hid hit
              clear hp hpm hle hq0 hq hl9 hln hit hj0
              go_wp2_with fail
              refine DC3.out.mono ?_
              rintro e w4 ⟨rfl, hA4, hS4⟩
              have HA4 := Lib.hid hA4
              have HS4 := Lib.hid (HS.out.trans hS4)
              clear hA4 hS4
              go_wp2_with fail
              go_roundw
              case rel => exact ⟨j + 1, by simp, by omega, Lib.hid (by rw [HIT.out]; have h := HA4.out; simp only [List.append_assoc, List.cons_append, List.nil_append] at h ⊢; exact h), HS4⟩
              case measure => simp [intOf6]; omega
          · have e0 : decide ((j : Int) < (l.length : Int)) = false := decide_eq_false (by omega)
            have e0' : decide (j < l.length) = false := decide_eq_false hjl
            have htk : l.take j = l := List.take_of_length_le (by omega)
            have hJ := HJ.out
            rw [htk] at hJ
            have hl9 := HLEN.out
            rw [HR.out] at hl9
            simp only [List.length_cons, List.length_append, List.length_nil] at hl9
            have WC3 := Lib.hid (writeC (.inr hJ) 41 41 rfl (by rw [List.length_append, List.length_cons]; omega))
            clear hJ htk hl9
            go_wp2_with fail
            refine WC3.out.mono ?_
            rintro e w3 ⟨rfl, hA3, hS3⟩
            have HA3 := Lib.hid hA3
            have HS3 := Lib.hid ((HF1.out.trans HS.out).trans hS3)
            clear hA3 hS3
            go_wp2_with fail
            go_end0
            rw [HR.out]
            exact ⟨rfl, by have h := HA3.out; simp only [List.append_assoc, List.cons_append] at h ⊢; exact h, HS3.out⟩
    · have c5 : (kq == 3) = false := by simpa using hk3
      have hr := HR0.out.trans (if_neg (fun h => hk3 (hqd.1 h).2.1))
      have HR := Lib.hid hr
      clear hr hk3 hqd hq hq0 hcell2 hpm hym
      generalize hll : [(q : Int), (z : Int)] = l at *
      go_wp2_with fail
      refine WC1.out.mono ?_
      rintro e w2 ⟨rfl, hA, hS⟩
      have HA2 := Lib.hid hA
      have HS2 := Lib.hid hS
      have y4 := blk_cell (BX.out w2 hS) 4
      simp at y4
      clear hA hS x0 x2 x3 x4
      go_wp2_with fail
      go_loopw [7, 8, 76] (fun _ _ i wr => ∃ j : Nat, i = .int .i64 j ∧ j ≤ l.length ∧ Hid (BAt wr B b T rest (.pointer (some ⟨b, 0, none⟩)) (t ++ 40 :: itemsX fm (l.take j))) ∧ Hid (Fr B b W1 wr)) (fun _ _ i _ => l.length - (intOf6 i).toNat)
      case atStart => exact ⟨0, rfl, Nat.zero_le _, Lib.hid (by simpa [itemsX] using HA2.out), HS2⟩
      case round =>
        obtain ⟨j, rfl, hj, HJ, HS⟩ := hrel
        by_cases hjl : j < l.length
        · have e0 : decide ((j : Int) < (l.length : Int)) = true := decide_eq_true (by omega)
          have e0' : decide (j < l.length) = true := decide_eq_true hjl
          obtain ⟨p, hp⟩ : ∃ p, l[j]? = some p := ⟨_, List.getElem?_eq_getElem hjl⟩
          have hpm := HP.out p (List.mem_of_getElem? hp)
          obtain ⟨q, rfl⟩ : ∃ q : Nat, p = (q : Int) := ⟨p.toNat, by omega⟩
          have hit := items_take fm l j _ hp
          have hle := items_le fm l (j + 1)
          obtain ⟨_, _, he, _, hq0⟩ := HRI.out wr (HS.out.old HO1.out hB)
          simp only [Value.slice.injEq] at he
          obtain ⟨rfl, _, rfl⟩ := he
          obtain ⟨bb, oo, hA, hq⟩ := hq0 (by omega)
          first | subst hA | (simp only [Option.some.injEq, Addr.mk.injEq] at hA; obtain ⟨rfl, rfl, _⟩ := hA)
          have q1 := hq j _ hp
          have r0 : (0 : Int) ≤ (j : Int) := by omega
          have r1 : (j : Int) < (l.length : Int) := by omega
          have hl9 := HLEN.out
          rw [HR.out] at hl9
          simp only [List.length_cons, List.length_append, List.length_nil] at hl9
          have hqk : q < k := by omega
          by_cases hj0 : 0 < j
          · have g0 : decide ((0 : Int) < (j : Int)) = true := decide_eq_true (by omega)
            have g0' : decide (0 < j) = true := decide_eq_true hj0
            rw [if_pos hj0] at hit
            have hln := congrArg List.length hit
            simp only [List.length_append, List.length_singleton] at hln
            have WC2 := Lib.hid (writeC (.inr HJ.out) 32 32 rfl (by rw [List.length_append, List.length_cons]; omega))
            have DC := Lib.hid (fun w3 (h3 : BAt w3 B b T rest (.pointer (some ⟨b, 0, none⟩)) ((t ++ 40 :: itemsX fm (l.take j)) ++ [32])) (k3 : Fr B b W1 w3) => HF.out q w3 _ hqk (k3.old HO1.out hB) (.inr h3) (by simp only [List.length_append, List.length_cons, List.length_nil]; omega))
            have HIT := Lib.hid hit
            clear hp hpm hle hq0 hq hl9 hln hit hj0
            go_wp2_with fail
            refine WC2.out.mono ?_
            rintro e w3 ⟨rfl, hA3, hS3⟩
            have HS3 := Lib.hid (HS.out.trans hS3)
            have DC3 := Lib.hid (DC.out w3 hA3 HS3.out)
            clear hA3 hS3 DC
            go_wp2_with fail
            refine DC3.out.mono ?_
            rintro e w4 ⟨rfl, hA4, hS4⟩
            have HA4 := Lib.hid hA4
            have HS4 := Lib.hid (HS3.out.trans hS4)
            clear hA4 hS4
            go_wp2_with fail
            go_roundw
            case rel => exact ⟨j + 1, by simp, by omega, Lib.hid (by rw [HIT.out]; have h := HA4.out; simp only [List.append_assoc, List.cons_append, List.nil_append] at h ⊢; exact h), HS4⟩
            case measure => simp [intOf6]; omega
          · have g0 : decide ((0 : Int) < (j : Int)) = false := decide_eq_false (by omega)
            have g0' : decide (0 < j) = false := decide_eq_false hj0
            rw [if_neg hj0] at hit
            have hln := congrArg List.length hit
            simp only [List.length_append, List.length_nil] at hln
            have DC3 := Lib.hid (HF.out q wr _ hqk (HS.out.old HO1.out hB) (.inr HJ.out) (by simp only [List.length_append, List.length_cons]; omega))
            have HIT := Lib.hid hit
            clear hp hpm hle hq0 hq hl9 hln hit hj0
            go_wp2_with fail
            refine DC3.out.mono ?_
            rintro e w4 ⟨rfl, hA4, hS4⟩
            have HA4 := Lib.hid hA4
            have HS4 := Lib.hid (HS.out.trans hS4)
            clear hA4 hS4
            go_wp2_with fail
            go_roundw
            case rel => exact ⟨j + 1, by simp, by omega, Lib.hid (by rw [HIT.out]; have h := HA4.out; simp only [List.append_assoc, List.cons_append, List.nil_append] at h ⊢; exact h), HS4⟩
            case measure => simp [intOf6]; omega
        · have e0 : decide ((j : Int) < (l.length : Int)) = false := decide_eq_false (by omega)
          have e0' : decide (j < l.length) = false := decide_eq_false hjl
          have htk : l.take j = l := List.take_of_length_le (by omega)
          have hJ := HJ.out
          rw [htk] at hJ
          have hl9 := HLEN.out
          rw [HR.out] at hl9
          simp only [List.length_cons, List.length_append, List.length_nil] at hl9
          have WC3 := Lib.hid (writeC (.inr hJ) 41 41 rfl (by rw [List.length_append, List.length_cons]; omega))
          clear hJ htk hl9
          go_wp2_with fail
          refine WC3.out.mono ?_
          rintro e w3 ⟨rfl, hA3, hS3⟩
          have HA3 := Lib.hid hA3
          have HS3 := Lib.hid ((HF1.out.trans HS.out).trans hS3)
          clear hA3 hS3
          go_wp2_with fail
          go_end0
          rw [HR.out]
          exact ⟨rfl, by have h := HA3.out; simp only [List.append_assoc, List.cons_append] at h ⊢; exact h, HS3.out⟩
  · have c4 : ((l.length : Int) == 2) = false := by simp; omega
    have c4' : (l.length == 2) = false := by simpa using hl2
    have hr := HR0.out.trans (if_neg (fun h => hl2 (HQD.out.1 h).1))
    have HR := Lib.hid hr
    have HL2 := Lib.hid hl2
    clear hr hl2
    go_wp2_with fail
    refine WC1.out.mono ?_
    rintro e w2 ⟨rfl, hA, hS⟩
    have HA2 := Lib.hid hA
    have HS2 := Lib.hid hS
    have y4 := blk_cell (BX.out w2 hS) 4
    simp at y4
    clear hA hS x0 x2 x3 x4
    go_wp2_with fail
    go_loopw [7, 8, 76] (fun _ _ i wr => ∃ j : Nat, i = .int .i64 j ∧ j ≤ l.length ∧ Hid (BAt wr B b T rest (.pointer (some ⟨b, 0, none⟩)) (t ++ 40 :: itemsX fm (l.take j))) ∧ Hid (Fr B b W1 wr)) (fun _ _ i _ => l.length - (intOf6 i).toNat)
    case atStart => exact ⟨0, rfl, Nat.zero_le _, Lib.hid (by simpa [itemsX] using HA2.out), HS2⟩
    case round =>
      obtain ⟨j, rfl, hj, HJ, HS⟩ := hrel
      by_cases hjl : j < l.length
      · have e0 : decide ((j : Int) < (l.length : Int)) = true := decide_eq_true (by omega)
        have e0' : decide (j < l.length) = true := decide_eq_true hjl
        obtain ⟨p, hp⟩ : ∃ p, l[j]? = some p := ⟨_, List.getElem?_eq_getElem hjl⟩
        have hpm := HP.out p (List.mem_of_getElem? hp)
        obtain ⟨q, rfl⟩ : ∃ q : Nat, p = (q : Int) := ⟨p.toNat, by omega⟩
        have hit := items_take fm l j _ hp
        have hle := items_le fm l (j + 1)
        obtain ⟨_, _, he, _, hq0⟩ := HRI.out wr (HS.out.old HO1.out hB)
        simp only [Value.slice.injEq] at he
        obtain ⟨rfl, _, rfl⟩ := he
        obtain ⟨bb, oo, hA, hq⟩ := hq0 (by omega)
        first | subst hA | (simp only [Option.some.injEq, Addr.mk.injEq] at hA; obtain ⟨rfl, rfl, _⟩ := hA)
        have q1 := hq j _ hp
        have r0 : (0 : Int) ≤ (j : Int) := by omega
        have r1 : (j : Int) < (l.length : Int) := by omega
        have hl9 := HLEN.out
        rw [HR.out] at hl9
        simp only [List.length_cons, List.length_append, List.length_nil] at hl9
        have hqk : q < k := by omega
        by_cases hj0 : 0 < j
        · have g0 : decide ((0 : Int) < (j : Int)) = true := decide_eq_true (by omega)
          have g0' : decide (0 < j) = true := decide_eq_true hj0
          rw [if_pos hj0] at hit
          have hln := congrArg List.length hit
          simp only [List.length_append, List.length_singleton] at hln
          have WC2 := Lib.hid (writeC (.inr HJ.out) 32 32 rfl (by rw [List.length_append, List.length_cons]; omega))
          have DC := Lib.hid (fun w3 (h3 : BAt w3 B b T rest (.pointer (some ⟨b, 0, none⟩)) ((t ++ 40 :: itemsX fm (l.take j)) ++ [32])) (k3 : Fr B b W1 w3) => HF.out q w3 _ hqk (k3.old HO1.out hB) (.inr h3) (by simp only [List.length_append, List.length_cons, List.length_nil]; omega))
          have HIT := Lib.hid hit
          clear hp hpm hle hq0 hq hl9 hln hit hj0
          go_wp2_with fail
          refine WC2.out.mono ?_
          rintro e w3 ⟨rfl, hA3, hS3⟩
          have HS3 := Lib.hid (HS.out.trans hS3)
          have DC3 := Lib.hid (DC.out w3 hA3 HS3.out)
          clear hA3 hS3 DC
          go_wp2_with fail
          refine DC3.out.mono ?_
          rintro e w4 ⟨rfl, hA4, hS4⟩
          have HA4 := Lib.hid hA4
          have HS4 := Lib.hid (HS3.out.trans hS4)
          clear hA4 hS4
          go_wp2_with fail
          go_roundw
          case rel => exact ⟨j + 1, by simp, by omega, Lib.hid (by rw [HIT.out]; have h := HA4.out; simp only [List.append_assoc, List.cons_append, List.nil_append] at h ⊢; exact h), HS4⟩
          case measure => simp [intOf6]; omega
        · have g0 : decide ((0 : Int) < (j : Int)) = false := decide_eq_false (by omega)
          have g0' : decide (0 < j) = false := decide_eq_false hj0
          rw [if_neg hj0] at hit
          have hln := congrArg List.length hit
          simp only [List.length_append, List.length_nil] at hln
          have DC3 := Lib.hid (HF.out q wr _ hqk (HS.out.old HO1.out hB) (.inr HJ.out) (by simp only [List.length_append, List.length_cons]; omega))
          have HIT := Lib.hid hit
          clear hp hpm hle hq0 hq hl9 hln hit hj0
          go_wp2_with fail
          refine DC3.out.mono ?_
          rintro e w4 ⟨rfl, hA4, hS4⟩
          have HA4 := Lib.hid hA4
          have HS4 := Lib.hid (HS.out.trans hS4)
          clear hA4 hS4
          go_wp2_with fail
          go_roundw
          case rel => exact ⟨j + 1, by simp, by omega, Lib.hid (by rw [HIT.out]; have h := HA4.out; simp only [List.append_assoc, List.cons_append, List.nil_append] at h ⊢; exact h), HS4⟩
          case measure => simp [intOf6]; omega
      · have e0 : decide ((j : Int) < (l.length : Int)) = false := decide_eq_false (by omega)
        have e0' : decide (j < l.length) = false := decide_eq_false hjl
        have htk : l.take j = l := List.take_of_length_le (by omega)
        have hJ := HJ.out
        rw [htk] at hJ
        have hl9 := HLEN.out
        rw [HR.out] at hl9
        simp only [List.length_cons, List.length_append, List.length_nil] at hl9
        have WC3 := Lib.hid (writeC (.inr hJ) 41 41 rfl (by rw [List.length_append, List.length_cons]; omega))
        clear hJ htk hl9
        go_wp2_with fail
        refine WC3.out.mono ?_
        rintro e w3 ⟨rfl, hA3, hS3⟩
        have HA3 := Lib.hid hA3
        have HS3 := Lib.hid ((HF1.out.trans HS.out).trans hS3)
        clear hA3 hS3
        go_wp2_with fail
        go_end0
        rw [HR.out]
        exact ⟨rfl, by have h := HA3.out; simp only [List.append_assoc, List.cons_append] at h ⊢; exact h, HS3.out⟩
end Go.Proofs.YtomhkemdafiphaaGreatDoor.ShowC

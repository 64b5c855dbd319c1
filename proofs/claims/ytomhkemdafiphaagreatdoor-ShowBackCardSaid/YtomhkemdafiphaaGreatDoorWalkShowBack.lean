import Derived.Test.YtomhkemdafiphaaGreatDoorShowK
import Derived.Test.YtomhkemdafiphaaGreatDoorShowT
import Derived.Test.YtomhkemdafiphaaGreatDoorWholeP
import Derived.Test.YtomhkemdafiphaaGreatDoorRows
import Derived.Deep.Slices
namespace Go.Proofs.YtomhkemdafiphaaGreatDoor.ShowC
open Go.Proofs.YtomhkemdafiphaaGreatDoor.Word Go Go.RowKit Go.Proofs.YtomhkemdafiphaaGreatDoor.Heap Go.Proofs.YtomhkemdafiphaaGreatDoor.ReadP Go.Proofs.YtomhkemdafiphaaGreatDoor.TreeP Go.Proofs.YtomhkemdafiphaaGreatDoor.ShowP Go.Proofs.YtomhkemdafiphaaGreatDoor.ShowB
open Go.Proofs.YtomhkemdafiphaaGreatDoor.ReadM (RI RN nodeC intOf6 flat5 read_calls ReadPost Nodes Ints ints_same nodes_same)
open Go.Lib (itoa)
open Go.Proofs.YtomhkemdafiphaaGreatDoorW.PrintWords (Aside0 below_then below_alloc)
theorem RN_blk {w : World} {k : Nat} {t : TypeId} {rs : List (Nd × Value)} (h : w.heap[k]? = some (.cells (rs.flatMap nodeC).toArray t (0, 0))) (c : Nat) (hc : rs.length ≤ c) (hi : ∀ p ∈ rs, RI w p.2 p.1.l) : RN w (.slice (some ⟨k, 0, none⟩) rs.length c) rs := by
  refine ⟨_, c, rfl, hc, fun _ => ⟨k, 0, rfl, fun j p hj => ?_⟩, hi⟩
  have f := flat5 nodeC (fun _ => rfl) rs j p hj
  have g : ∀ i, i < 5 → w.cell? ⟨k, 0 + j * 5 + i, none⟩ = (nodeC p)[i]? := fun i hi => by
    rw [Nat.zero_add, Heap.blk_cell h, List.getElem?_toArray, f i hi]
  exact ⟨g 0 (by omega), g 1 (by omega), g 2 (by omega), g 3 (by omega), g 4 (by omega)⟩
/-- the text of so many data that stand by themselves -/
def backT (R : List Nd) (tops : List Int) (j : Nat) : List UInt8 := (tops.take j).flatMap fun i => datX R R.length i ++ [32]
theorem backT_succ {R : List Nd} {tops : List Int} {j : Nat} {i : Int} (h : tops[j]? = some i) : backT R tops (j + 1) = backT R tops j ++ (datX R R.length i ++ [32]) := by
  unfold backT
  rw [List.take_add_one, h]
  simp
theorem back_read {l : List UInt8} {R : List Nd} {tops : List Int} (h : readF l = .ok (R, tops)) (hl : (backT R tops tops.length).length ≤ 4000) : ∃ R2, readF (backT R tops tops.length) = .ok (R2, tops) ∧ R2.map noP = R.map noP := by
  obtain ⟨T, hT, hR, rfl⟩ := read_items h
  have hn : sizeL T = R.length := by
    have h1 := congrArg List.length hR
    rw [List.length_map, rows_len T 0 (fun t ht => (hT t ht).1)] at h1
    exact h1.symm
  have e : backT R (rootsOf 0 T) (rootsOf 0 T).length = shownT 32 T := by
    unfold backT shownT
    rw [List.take_length, show (rootsOf 0 T).flatMap (fun i => datX R R.length i ++ [32]) = ((rootsOf 0 T).map (datX R R.length)).flatMap (· ++ [32]) by rw [List.flatMap_map], roots_shown hT hR R.length (by omega), List.flatMap_map]
  rw [e] at hl ⊢
  obtain ⟨R2, h1, h2⟩ := shown_read 32 (.inl rfl) hT hl
  refine ⟨R2, h1, h2.trans ?_⟩
  rw [← hR, List.map_map]
  rfl
theorem top_in' {row : List Nd} {tops : List Int} (h : Wh row tops []) {p : Int} (hp : p ∈ tops) : 0 ≤ p ∧ p < row.length := by
  have h1 := h.cnt p
  have h2 := List.count_pos_iff.2 hp
  unfold tot one_ at h1
  split at h1
  · assumption
  · omega
theorem names_le {l : List UInt8} {R : List Nd} {tops : List Int} (h : readF l = .ok (R, tops)) (hl : l.length ≤ 4000) : ∀ x ∈ R, x.s.length ≤ 10000 := fun x hx => by
  rcases ((read_wh h).fine x hx).1 with h0 | h0
  · rw [h0]; exact Nat.zero_le _
  · have h1 := ((read_ok h).1 x hx).2
    unfold AtB at h1
    obtain ⟨_, _, c, _, _, _, h4, _⟩ := h1
    rcases h4 h0 with ⟨_, h5⟩ | ⟨h5, _⟩
    · rw [h5]; decide
    · omega
/-- what a row that was read is -/
structure Row (l : List UInt8) (R : List Nd) (tops : List Int) : Prop where
  len : R.length ≤ 8002
  tl : tops.length ≤ 8002
  ll : ∀ x ∈ R, x.l.length ≤ 10000
  sl : ∀ x ∈ R, x.s.length ≤ 10000
  nb : ∀ x ∈ R, -9223372036854775808 ≤ x.n ∧ x.n < 9223372036854775808
  dat : ∀ i ∈ tops, datumP R i = some (datX R R.length i) ∧ (datX R R.length i).length ≤ 1000000000
theorem row_of {l : List UInt8} {R : List Nd} {tops : List Int} (h : readF l = .ok (R, tops)) (hl : l.length ≤ 4000) : Row l R tops := by
  have hw := read_wh h
  have h1 := (read_ok h).2
  have hlo := read_lo h
  have hsl := names_le h hl
  have hll : ∀ x ∈ R, x.l.length ≤ 10000 := fun x hx => by have := (hlo.1 x hx).1; omega
  have hnb : ∀ x ∈ R, -9223372036854775808 ≤ x.n ∧ x.n < 9223372036854775808 := fun x hx => by have := (hw.fine x hx).2.2.2; omega
  have hpo : ∀ x ∈ R, 0 ≤ x.pos := fun x hx => ((read_ok h).1 x hx).2.1
  have hm := may_whole hw hpo
  refine ⟨by omega, by have := hlo.2.1; omega, hll, hsl, hnb, fun i hi => ?_⟩
  have hi2 := top_in' hw hi
  refine ⟨by unfold datumP; rw [if_pos ⟨hm, hi2⟩], ?_⟩
  have hz : ∀ i : Nat, (itoa (nd R (i : Int)).n).length ≤ 24 := fun i => by
    have := nd_field (L := R) (·.n) (fun n => -9223372036854775808 ≤ n ∧ n < 9223372036854775808) ⟨by decide, by decide⟩ hnb (i : Int)
    have := Lib.itoa_length_le (nd R (i : Int)).n this.1 (by have := this.2; omega)
    omega
  have q1 : ∀ i : Nat, (nd R (i : Int)).s.length ≤ 10000 := fun i => nd_field (L := R) (·.s) (fun s => s.length ≤ 10000) (by simp) hsl (i : Int)
  have q2 : ∀ i : Nat, (nd R (i : Int)).l.length ≤ 10000 := fun i => nd_field (L := R) (·.l) (fun l => l.length ≤ 10000) (by simp) hll (i : Int)
  obtain ⟨k, rfl⟩ : ∃ k : Nat, i = (k : Int) := ⟨i.toNat, by omega⟩
  have := dat_len (Tree.of_may hm) 20024 hz (fun i => by have := q1 i; have := q2 i; omega) R.length (k : Int) (by omega) (by omega)
  have h3 : ((k : Int).toNat + 1) * 20024 ≤ 10000 * 20024 := Nat.mul_le_mul_right _ (by omega)
  omega
set_option maxHeartbeats 8000000 in
set_option maxRecDepth 100000 in
theorem backw (s : ByteArray) (w : World) (hV : VarsS w) :
    Calls Tryz.prog 4 #[.string s] w fun e w' => e = .returned (.bool true) ∧ Chg [] w w' := by
  have HV := Lib.hid hV
  by_cases hs : 1000 < s.size
  · have c1 : decide (1000 < (s.size : Int)) = true := decide_eq_true (by omega)
    have c1' : decide (1000 < s.size) = true := decide_eq_true hs
    clear hs hV
    go_enter Tryz.func4, Tryz.ntmps4
    go_wp2_with fail
    refine (shown_calls _ HV.out).mono ?_
    rintro e w2 ⟨rfl, k2⟩
    have K2 := Lib.hid k2
    clear k2
    go_wp2_with fail
    go_ret
    exact ⟨rfl, K2.out⟩
  have c1 : decide (1000 < (s.size : Int)) = false := decide_eq_false (by omega)
  have c1' : decide (1000 < s.size) = false := decide_eq_false hs
  have hsz : s.data.toList.length = s.size := (Lib.size_eq s).symm
  have D1 := fun w hV => read_calls s w hV
  cases hR : readF s.data.toList with
  | error x =>
    obtain ⟨i, er⟩ := x
    have hne := readF_err hR
    have t1 : (er == 0) = false := by simpa using hne
    have t1' : (er != 0) = true := by simpa using hne
    rw [hR] at D1
    simp only [ReadPost] at D1
    have FS1 := Lib.hid D1
    clear D1 hne hsz hR hs hV
    go_enter Tryz.func4, Tryz.ntmps4
    go_wp2_with fail
    refine (shown_calls _ HV.out).mono ?_
    rintro e w2 ⟨rfl, k2⟩
    have K2 := Lib.hid k2
    clear k2
    go_wp2_with fail
    refine (FS1.out _ (HV.out.chg K2.out).v).mono ?_
    rintro e w3 ⟨⟨base1, hbl1, rfl⟩, hb⟩
    have K3 := Lib.hid (K2.out.sub (Chg.of_below hb))
    clear hb hbl1
    go_wp2_with fail
    go_ret
    exact ⟨rfl, K3.out⟩
  | ok y =>
    obtain ⟨R, tops⟩ := y
    have RO := Lib.hid (row_of hR (by omega))
    have BR := Lib.hid (back_read (R := R) (tops := tops) hR)
    rw [hR] at D1
    simp only [ReadPost] at D1
    have FS1 := Lib.hid D1
    clear D1 hsz hR hs hV
    go_enter Tryz.func4, Tryz.ntmps4
    go_wp2_with fail
    refine (shown_calls _ HV.out).mono ?_
    rintro e w2 ⟨rfl, k2⟩
    have K2 := Lib.hid k2
    clear k2
    go_wp2_with fail
    refine (FS1.out _ (HV.out.chg K2.out).v).mono ?_
    rintro e w3 ⟨⟨base1, hbl1, v0, v1, rs, rfl, hrs, hN, hT, hI, _⟩, hb⟩
    have K3 := Lib.hid (K2.out.sub (Chg.of_below hb))
    have N1 := Lib.hid (Nodes.rn hN hI)
    have T1 := Lib.hid (Ints.ri hT)
    have HRS := Lib.hid hrs
    have hlen : rs.length = R.length := by rw [← hrs, List.length_map]
    have SC := Lib.hid (fun (wx : World) (kx : Chg [] w3 wx) (i : Int) => show_calls (N1.out.chg kx) (by have := RO.out.len; omega) (fun p hp => RO.out.ll p.1 (by rw [← hrs]; exact List.mem_map_of_mem hp)) (fun p hp => RO.out.nb p.1 (by rw [← hrs]; exact List.mem_map_of_mem hp)) (fun p hp => RO.out.sl p.1 (by rw [← hrs]; exact List.mem_map_of_mem hp)) ((HV.out.chg (K3.out.sub kx)).t) i)
    rw [hrs] at SC
    obtain ⟨A2, c2, rfl, g2, q2⟩ := id T1.out
    obtain ⟨A1, c1x, rfl, g1, q1, i1⟩ := id N1.out
    rw [hlen] at SC N1 g1 ⊢
    have HLEN := Lib.hid hlen
    have Q2 := Lib.hid q2
    have Q1 := Lib.hid q1
    have I1 := Lib.hid i1
    clear hb hbl1 hrs hN hT hI q2 q1 i1 hlen FS1 K2
    have bm : tops.length ≤ 8002 := RO.out.tl
    have bn : R.length ≤ 8002 := RO.out.len
    have htx : backT R tops 0 = [] := rfl
    go_wp2_with fail
    go_loopw [37, 8] (fun i t wx => ∃ j : Nat, i = .int .i64 j ∧ j ≤ tops.length ∧ t = .string ⟨(backT R tops j).toArray⟩ ∧ (backT R tops j).length ≤ j * 1000000001 ∧ Hid (Chg [] w3 wx)) (fun i _ _ => tops.length - (intOf6 i).toNat)
    case atStart => exact ⟨0, rfl, Nat.zero_le _, rfl, by rw [htx]; exact Nat.zero_le _, Lib.hid (Chg.refl _ _)⟩
    case round =>
      obtain ⟨j, rfl, hj, rfl, hbl, KW⟩ := hrel
      by_cases hjn : j < tops.length
      · have e0 : decide ((j : Int) < (tops.length : Int)) = true := decide_eq_true (by omega)
        have e0' : decide (j < tops.length) = true := decide_eq_true hjn
        obtain ⟨b2, o2, rfl, y2⟩ := Q2.out (by omega)
        obtain ⟨q, hq⟩ : ∃ q, tops[j]? = some q := ⟨_, List.getElem?_eq_getElem hjn⟩
        have hcq := KW.out.cell (y2 j q hq) (by simp)
        have hd := RO.out.dat q (List.mem_of_getElem? hq)
        have hsu := backT_succ (R := R) hq
        have DC := Lib.hid (SC.out wr KW.out q)
        rw [hd.1] at DC
        have hdl := hd.2
        have p0 : (0 : Int) ≤ (j : Int) := by omega
        have p1 : (j : Int) < (tops.length : Int) := by omega
        generalize backT R tops j = t0 at *
        generalize hdx : datX R R.length q = dx at *
        have n1 : dx.length + 1 ≤ 9223372036854775807 := by omega
        have n2 : t0.length + (dx.length + 1) ≤ 9223372036854775807 := by
          have : j * 1000000001 ≤ 8002 * 1000000001 := Nat.mul_le_mul_right _ (by omega)
          omega
        have HSU := Lib.hid hsu
        have HBL := Lib.hid (show (t0 ++ (dx ++ [32])).length ≤ (j + 1) * 1000000001 by simp only [List.length_append, List.length_singleton]; omega)
        clear hd hdx hsu y2 hq hdl hbl
        go_wp2_with fail
        refine DC.out.mono ?_
        rintro e w4 ⟨rfl, k4⟩
        unfold datumE
        simp only
        have K4 := Lib.hid (KW.out.sub k4)
        clear k4
        go_wp2_with fail
        go_roundw
        case rel => exact ⟨j + 1, by simp, by omega, by rw [HSU.out, ← cat_bytes, ← cat_bytes], by rw [HSU.out]; exact HBL.out, K4⟩
        case measure => simp [intOf6]; omega
      · have e0 : decide ((j : Int) < (tops.length : Int)) = false := decide_eq_false (by omega)
        have e0' : decide (j < tops.length) = false := decide_eq_false hjn
        have hjm : j = tops.length := by omega
        subst hjm
        clear hj hjn
        by_cases hbig : 4000 < (backT R tops tops.length).length
        · have f0 : decide ((4000 : Int) < ((backT R tops tops.length).length : Int)) = true := decide_eq_true (by omega)
          have f0' : decide (4000 < (backT R tops tops.length).length) = true := decide_eq_true hbig
          clear hbig BR hbl
          generalize backT R tops tops.length = bt at *
          go_wp2_with fail
          go_ret
          exact ⟨rfl, K3.out.sub KW.out⟩
        have f0 : decide ((4000 : Int) < ((backT R tops tops.length).length : Int)) = false := decide_eq_false (by omega)
        have f0' : decide (4000 < (backT R tops tops.length).length) = false := decide_eq_false hbig
        obtain ⟨R2, hr2, hno⟩ := BR.out (by omega)
        have RO2 := row_of hr2 (by omega)
        have D2 := fun w hV => read_calls (⟨(backT R tops tops.length).toArray⟩ : ByteArray) w hV
        rw [show (⟨(backT R tops tops.length).toArray⟩ : ByteArray).data.toList = backT R tops tops.length by simp, hr2] at D2
        simp only [ReadPost] at D2
        have FS2 := Lib.hid D2
        have hlr : R2.length = R.length := by have := congrArg List.length hno; simpa using this
        have HLR := Lib.hid hlr
        have HNO := Lib.hid hno
        clear hbig BR hbl hr2 hno RO2 D2 hlr
        generalize backT R tops tops.length = bt at *
        go_wp2_with fail
        refine (FS2.out _ (HV.out.chg (K3.out.sub KW.out)).v).mono ?_
        rintro e w5 ⟨⟨base2, hbl2, v2, v3, rs2, rfl, hrs2, hN, hT, hI, _⟩, hb⟩
        have K5 := Lib.hid (KW.out.sub (Chg.of_below hb))
        have M2 := Lib.hid (Nodes.rn hN hI)
        have U2 := Lib.hid (Ints.ri hT)
        have M1 := Lib.hid (N1.out.chg K5.out)
        have U1 := Lib.hid (T1.out.chg K5.out)
        have HRS2 := Lib.hid hrs2
        have hlen2 : rs2.length = R.length := by rw [← HLR.out, ← hrs2, List.length_map]
        obtain ⟨A3, c3, rfl, g3, q3, i3⟩ := id M2.out
        rw [hlen2] at g3 ⊢
        have HLEN2 := Lib.hid hlen2
        have Q3 := Lib.hid q3
        have I3 := Lib.hid i3
        clear hb hbl2 hrs2 hN hT hI q3 i3 hlen2 FS2 SC M1 M2 N1
        have h0 : ((R.length : Int) != (R.length : Int)) = false := by simp
        go_wp2_with fail
        refine (ints_same tops _ v3 _ U1.out U2.out (by omega)).mono ?_
        rintro e w6 ⟨rfl, n6, hw6⟩
        have K6 := Lib.hid (show Chg [] w5 w6 by rw [hw6]; exact (Chg.refl [] w5).draw n6)
        clear hw6 U1 U2
        have LL := Lib.hid RO.out.ll
        generalize hn : R.length = n at *
        have HN := Lib.hid hn
        clear hn
        go_wp2_with fail
        go_loopw [82] (fun i wr => ∃ j : Nat, i = .int .i64 j ∧ j ≤ n ∧ Hid (Chg [] w5 wr)) (fun i _ => n - (intOf6 i).toNat)
        case atStart => exact ⟨0, rfl, Nat.zero_le _, K6⟩
        case round =>
          obtain ⟨j, rfl, hj, KX⟩ := hrel
          by_cases hjn : j < n
          · have e0 : decide ((j : Int) < (n : Int)) = true := decide_eq_true (by omega)
            have e0' : decide (j < n) = true := decide_eq_true hjn
            have KW3 : Chg [] w3 wr := K5.out.sub KX.out
            have hl1 : rs.length = n := HLEN
            have hl2 : rs2.length = n := HLEN2
            obtain ⟨b1, o1, rfl, y1⟩ := Q1.out (by omega)
            obtain ⟨b2, o2, rfl, y2⟩ := Q3.out (by omega)
            obtain ⟨p, hp⟩ : ∃ p, rs[j]? = some p := ⟨_, List.getElem?_eq_getElem (by rw [hl1]; exact hjn)⟩
            obtain ⟨p', hp'⟩ : ∃ p, rs2[j]? = some p := ⟨_, List.getElem?_eq_getElem (by rw [hl2]; exact hjn)⟩
            have hpp : noP p.1 = noP p'.1 := by
              have e1 : (rs.map (·.1))[j]? = some p.1 := by rw [List.getElem?_map, hp]; rfl
              have e2 : (rs2.map (·.1))[j]? = some p'.1 := by rw [List.getElem?_map, hp']; rfl
              rw [show rs.map (·.1) = R from HRS] at e1
              rw [show rs2.map (·.1) = R2 from HRS2] at e2
              have h1 : (R.map noP)[j]? = some (noP p.1) := by rw [List.getElem?_map, e1]; rfl
              have h2 : (R2.map noP)[j]? = some (noP p'.1) := by rw [List.getElem?_map, e2]; rfl
              rw [show R2.map noP = R.map noP from HNO, h1] at h2
              injection h2 with h2
            have hpl : p.1.l.length ≤ 1000000 := by
              have h1 : p.1 ∈ R := by rw [← show rs.map (·.1) = R from HRS]; exact List.mem_map_of_mem (List.mem_of_getElem? hp)
              have h2 := LL.out p.1 h1
              omega
            clear hl1
            obtain ⟨a0, a1, a2, a3, a4⟩ := y1 j p hp
            obtain ⟨d0, d1, d2, d3, d4⟩ := y2 j p' hp'
            have hi1 := (I1.out p (List.mem_of_getElem? hp)).chg K5.out
            have hi2 := I3.out p' (List.mem_of_getElem? hp')
            obtain ⟨⟨kd, pos, nn, sb, ll⟩, Lv⟩ := p
            obtain ⟨⟨kd', pos', nn', sb', ll'⟩, Lv'⟩ := p'
            simp only [noP, Nd.mk.injEq] at hpp
            obtain ⟨rfl, _, rfl, rfl, rfl⟩ := hpp
            simp only at a0 a1 a2 a3 a4 d0 d1 d2 d3 d4 hi1 hi2 hpl
            obtain ⟨LA, Lc, hLv, _⟩ := id hi1
            obtain ⟨LA', Lc', hLv', _⟩ := id hi2
            subst hLv hLv'
            have J1 := Lib.hid hi1
            have J2 := Lib.hid hi2
            have a0 := KW3.cell a0 (by simp)
            have a1 := KW3.cell a1 (by simp)
            have a2 := KW3.cell a2 (by simp)
            have a3 := KW3.cell a3 (by simp)
            have a4 := KW3.cell a4 (by simp)
            have d0 := KX.out.cell d0 (by simp)
            have d1 := KX.out.cell d1 (by simp)
            have d2 := KX.out.cell d2 (by simp)
            have d3 := KX.out.cell d3 (by simp)
            have d4 := KX.out.cell d4 (by simp)
            have p0 : (0 : Int) ≤ (j : Int) := by omega
            have p1 : (j : Int) < (n : Int) := by omega
            clear y1 y2 hp hp' hi1 hi2 hl2
            go_upto_region 24 with fail
            go_region_held3 (fun w' => (w'.cell? ⟨b1, o1 + j * 5, none⟩ = some (.int .u8 kd) ∧ w'.cell? ⟨b1, o1 + j * 5 + 1, none⟩ = some (.int .i64 pos) ∧ w'.cell? ⟨b1, o1 + j * 5 + 2, none⟩ = some (.int .i64 nn) ∧ w'.cell? ⟨b1, o1 + j * 5 + 3, none⟩ = some (.string ⟨sb.toArray⟩) ∧ w'.cell? ⟨b1, o1 + j * 5 + 4, none⟩ = some (.slice LA ll.length Lc)) ∧ (w'.cell? ⟨b2, o2 + j * 5, none⟩ = some (.int .u8 kd) ∧ w'.cell? ⟨b2, o2 + j * 5 + 1, none⟩ = some (.int .i64 pos') ∧ w'.cell? ⟨b2, o2 + j * 5 + 2, none⟩ = some (.int .i64 nn) ∧ w'.cell? ⟨b2, o2 + j * 5 + 3, none⟩ = some (.string ⟨sb.toArray⟩) ∧ w'.cell? ⟨b2, o2 + j * 5 + 4, none⟩ = some (.slice LA' ll.length Lc')))
              (go_keep) (fail)
            all_goals
              clear a0 a1 a2 a3 a4 d0 d1 d2 d3 d4
              go_wp2_with fail
              refine (nodes_same [(⟨kd, 0, nn, sb, ll⟩, .slice LA ll.length Lc)] [(⟨kd, 0, nn, sb, ll⟩, .slice LA' ll.length Lc')] _ _ _ (RN_blk (t := 34) (k := wr.heap.size + 1 + 1) ((Chg.refl [] _).drew.at (Heap.blk_old (by simp) (Heap.blk_new (by simp))) (by simp)) 1 (Nat.le_refl _) ?_) (RN_blk (t := 34) (k := wr.heap.size + 1 + 1 + 1) ((Chg.refl [] _).drew.at (Heap.blk_new (by simp)) (by simp)) 1 (Nat.le_refl _) ?_) rfl (by simp) ?_).mono ?_
              · intro p hp
                have : p = _ := List.mem_singleton.1 hp
                subst this
                exact J1.out.chg (KX.out.sub (((((Chg.refl [] wr).alloc _).alloc _).alloc _).alloc _).drew)
              · intro p hp
                have : p = _ := List.mem_singleton.1 hp
                subst this
                exact J2.out.chg (KX.out.sub (((((Chg.refl [] wr).alloc _).alloc _).alloc _).alloc _).drew)
              · intro p hp
                have : p = _ := List.mem_singleton.1 hp
                subst this
                exact hpl
              rintro e w7 ⟨rfl, n7, hw7⟩
              have K7 := Lib.hid (show Chg [] w5 w7 by rw [hw7]; exact (KX.out.sub (((((Chg.refl [] wr).alloc _).alloc _).alloc _).alloc _).drew).draw n7)
              clear hw7
              go_wp2_with fail
              go_roundw
              case rel => exact ⟨j + 1, by simp, by omega, K7⟩
              case measure => simp [intOf6]; omega
          · have e0 : decide ((j : Int) < (n : Int)) = false := decide_eq_false (by omega)
            have e0' : decide (j < n) = false := decide_eq_false hjn
            go_wp2_with fail
            go_ret
            exact ⟨rfl, (K3.out.sub K5.out).sub KX.out⟩
theorem walkShowBack (s : ByteArray) (w : World) (hL : laidMetH Tryz.prog Rows.showBackRow.laid w) (_hs : s.size ≤ maxLen) :
    Calls Tryz.prog 4 #[.string s] w fun e w' => e = .returned (.bool true) ∧ Below w.heap.size w w' :=
  (backw s w (varsS_of hL (by kernel_rfl) (by kernel_rfl) (by kernel_rfl))).mono (fun e w' h => ⟨h.1, h.2.below⟩)
end Go.Proofs.YtomhkemdafiphaaGreatDoor.ShowC

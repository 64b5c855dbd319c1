/- ShowDots answers true; the conditions stand in the statement. -/
import Derived.Test.YtomhkemdafiphaaGreatDoorShowL3
import Derived.Test.YtomhkemdafiphaaGreatDoorShowK
import Derived.Test.YtomhkemdafiphaaGreatDoorRows
namespace Go.Proofs.YtomhkemdafiphaaGreatDoor.ShowC
open Go.Proofs.YtomhkemdafiphaaGreatDoor.Word Go Go.RowKit Go.Proofs.YtomhkemdafiphaaGreatDoor.Heap Go.Proofs.YtomhkemdafiphaaGreatDoor.ReadP Go.Proofs.YtomhkemdafiphaaGreatDoor.TreeP Go.Proofs.YtomhkemdafiphaaGreatDoor.ShowP Go.Proofs.YtomhkemdafiphaaGreatDoor.ShowB Go.Proofs.YtomhkemdafiphaaGreatDoor.ShowW
open Go.Proofs.YtomhkemdafiphaaGreatDoor.Ar (Thing IsAr new_calls alloc_calls rd_new tot kindA lenA getA)
open Go.Lib (itoa byteCells)
theorem Env.chg {w w' : World} {B : Nat} {pa pn : Value} {th : List Thing} {nm : List (List UInt8)} (h : Env w B pa pn th nm) (k : Chg [] w w') : Env w' w'.heap.size pa pn th nm := by
  obtain ⟨g, bw, bh, size, h1, h2⟩ := h.ar
  exact ⟨⟨g, bw, bh, size, h1, h2.sub k⟩, h.nam.chg k, h.tab.chg k, Nat.le_refl _, h.thw, h.nms⟩
theorem eq_bytes {a : List UInt8} {b : ByteArray} (h : b = ⟨a.toArray⟩) : (a == b.toList) = true := by rw [h, Go.Proofs.YtomhkemdafiphaaGreatDoor.ReadM.ba_tl]; exact beq_self_eq_true _
/-- a number modulo 1000, as a word -/
def wN (n : Int) : Int := ((n.tmod 1000) % 18446744073709551616 * 8) % 18446744073709551616
theorem tm_bd (n : Int) : -999 ≤ n.tmod 1000 ∧ n.tmod 1000 ≤ 999 := by
  rcases Int.le_total 0 n with h | h
  · rw [tmod_ge 1000 h]; omega
  · rw [tmod_lt 1000 h]; omega
theorem wN_bd (n : Int) : 0 ≤ wN n ∧ wN n < 18446744073709551616 ∧ wN n % 8 = 0 := by
  unfold wN
  omega
theorem wN_int (n : Int) : toIntP (wN n) = (n.tmod 1000, true) := by
  have h := tm_bd n
  unfold toIntP wN
  generalize n.tmod 1000 = m at *
  rw [if_pos (by omega)]
  have e : wrap64 (m % 18446744073709551616 * 8 % 18446744073709551616) = m * 8 := by unfold wrap64; omega
  rw [e, show m * 8 / 8 = m by omega, if_neg (by omega), if_neg (by omega)]
theorem wN_none (th : List Thing) (n : Int) : pairP th (wN n) = none := by
  have h := (wN_bd n).2.2
  have k : kindA th (wN n) = 0 := by
    unfold kindA Go.Proofs.YtomhkemdafiphaaGreatDoor.Ar.place
    rw [if_neg (by omega)]
  unfold pairP
  rw [k, if_neg (by omega)]
theorem wN_text (th : List Thing) (nm : List (List UInt8)) (n : Int) : plainP th nm (wN n) = itoa (n.tmod 1000) := by
  unfold plainP
  rw [wN_int, if_pos rfl]
theorem it_len (n : Int) : (itoa (n.tmod 1000)).length ≤ 24 := by
  have h := tm_bd n
  have := Lib.itoa_length_le (n.tmod 1000) (by omega) (by omega)
  omega
/-- the things of the statement -/
def things (x y z : Int) : List Thing := [(1, [wN x, wN y]), (1, [1, wN z]), (1, [wN z, 1]), (1, [1, 2])]
theorem p_p (x y z : Int) : pairP (things x y z) 1 = some (wN x, wN y) := by rfl
theorem p_q (x y z : Int) : pairP (things x y z) 25 = some (1, wN z) := by rfl
theorem p_r (x y z : Int) : pairP (things x y z) 49 = some (wN z, 1) := by rfl
theorem p_s (x y z : Int) : pairP (things x y z) 73 = some (1, 2) := by rfl
theorem p_2 (x y z : Int) : pairP (things x y z) 2 = none := by rfl
theorem wN_2 (n : Int) : wN n ≠ 2 := fun e => by have := (wN_bd n).2.2; rw [e] at this; exact absurd this (by decide)
theorem cut_le {s : List UInt8} (h : s.length ≤ 120) : cutS s = s := by unfold cutS; rw [if_neg (by omega)]
theorem t_p (x y z : Int) (nm : List (List UInt8)) : wordX (pairP (things x y z)) (plainP (things x y z) nm) 1 = 40 :: (itoa (x.tmod 1000) ++ 32 :: 46 :: 32 :: (itoa (y.tmod 1000) ++ [41])) := by
  have h1 := it_len x
  have h2 := it_len y
  rw [word_full _ _ 1 4 (40 :: (itoa (x.tmod 1000) ++ 32 :: 46 :: 32 :: (itoa (y.tmod 1000) ++ [41]))) (by simp [fullT, p_p, wN_none, wN_text, wN_2]), cut_le]
  simp only [List.length_cons, List.length_append, List.length_nil]; omega
theorem t_q (x y z : Int) (nm : List (List UInt8)) : wordX (pairP (things x y z)) (plainP (things x y z) nm) 25 = 40 :: 40 :: (itoa (x.tmod 1000) ++ 32 :: 46 :: 32 :: (itoa (y.tmod 1000) ++ 41 :: 32 :: 46 :: 32 :: (itoa (z.tmod 1000) ++ [41]))) := by
  have h1 := it_len x
  have h2 := it_len y
  have h3 := it_len z
  rw [word_full _ _ 25 6 (40 :: 40 :: (itoa (x.tmod 1000) ++ 32 :: 46 :: 32 :: (itoa (y.tmod 1000) ++ 41 :: 32 :: 46 :: 32 :: (itoa (z.tmod 1000) ++ [41])))) (by simp [fullT, p_p, p_q, wN_none, wN_text, wN_2]), cut_le]
  simp only [List.length_cons, List.length_append, List.length_nil]; omega
theorem t_r (x y z : Int) (nm : List (List UInt8)) : wordX (pairP (things x y z)) (plainP (things x y z) nm) 49 = 40 :: (itoa (z.tmod 1000) ++ 32 :: (itoa (x.tmod 1000) ++ 32 :: 46 :: 32 :: (itoa (y.tmod 1000) ++ [41]))) := by
  have h1 := it_len x
  have h2 := it_len y
  have h3 := it_len z
  rw [word_full _ _ 49 6 (40 :: (itoa (z.tmod 1000) ++ 32 :: (itoa (x.tmod 1000) ++ 32 :: 46 :: 32 :: (itoa (y.tmod 1000) ++ [41])))) (by simp [fullT, p_p, p_r, wN_none, wN_text, wN_2]), cut_le]
  simp only [List.length_cons, List.length_append, List.length_nil]; omega
theorem t_s (x y z : Int) (nm : List (List UInt8)) : wordX (pairP (things x y z)) (plainP (things x y z) nm) 73 = 40 :: 40 :: (itoa (x.tmod 1000) ++ 32 :: 46 :: 32 :: (itoa (y.tmod 1000) ++ [41, 41])) := by
  have h1 := it_len x
  have h2 := it_len y
  rw [word_full _ _ 73 6 (40 :: 40 :: (itoa (x.tmod 1000) ++ 32 :: 46 :: 32 :: (itoa (y.tmod 1000) ++ [41, 41]))) (by simp [fullT, p_p, p_s, p_2, wN_none, wN_text, wN_2]), cut_le]
  simp only [List.length_cons, List.length_append, List.length_nil]; omega
set_option maxHeartbeats 1000000 in
theorem w_calls (n : Int) (_h0 : -9223372036854775808 ≤ n) (_h1 : n < 9223372036854775808) (w : World) :
    Calls Tryz.prog 21 #[.int .i64 n] w fun e w' => e = .returned (.int .u64 (wN n)) ∧ Chg [] w w' := by
  have hb := tm_bd n
  have HW := Lib.hid (show wN n = ((n.tmod 1000) % 18446744073709551616 * 8) % 18446744073709551616 from rfl)
  have c0 : wrap64 (n.tmod 1000) = n.tmod 1000 := by unfold wrap64; omega
  go_enter Tryz.func21, Tryz.ntmps21
  go_wp2_with fail
  go_ret
  rw [HW.out]
  exact ⟨rfl, Chg.refl _ _⟩
set_option maxHeartbeats 1000000 in
theorem d_calls (n : Int) (_h0 : -9223372036854775808 ≤ n) (_h1 : n < 9223372036854775808) (w : World) :
    Calls Tryz.prog 22 #[.int .i64 n] w fun e w' => e = .returned (.string ⟨(itoa (n.tmod 1000)).toArray⟩) ∧ Chg [] w w' := by
  have hb := tm_bd n
  have c0 : wrap64 (n.tmod 1000) = n.tmod 1000 := by unfold wrap64; omega
  have DC := Lib.hid (digits_calls (n.tmod 1000) (by omega) (by omega) w)
  clear hb
  go_enter Tryz.func22, Tryz.ntmps22
  go_wp2_with fail
  refine DC.out.mono ?_
  rintro e w2 ⟨rfl, k2⟩
  go_wp2_with fail
  go_ret
  exact ⟨rfl, k2⟩
set_option maxHeartbeats 8000000 in
set_option maxRecDepth 100000 in
theorem dotsw (x y z : Int) (hx0 : -9223372036854775808 ≤ x) (hx1 : x < 9223372036854775808) (hy0 : -9223372036854775808 ≤ y) (hy1 : y < 9223372036854775808) (hz0 : -9223372036854775808 ≤ z) (hz1 : z < 9223372036854775808) (w : World) (hV : VarsS w) :
    Calls Tryz.prog 7 #[.int .i64 x, .int .i64 y, .int .i64 z] w fun e w' => e = .returned (.bool true) ∧ Chg [] w w' := by
  have HV := Lib.hid hV
  have WX := Lib.hid (w_calls x hx0 hx1)
  have WY := Lib.hid (w_calls y hy0 hy1)
  have WZ := Lib.hid (w_calls z hz0 hz1)
  have DX := Lib.hid (d_calls x hx0 hx1)
  have DY := Lib.hid (d_calls y hy0 hy1)
  have DZ := Lib.hid (d_calls z hz0 hz1)
  clear hV hx0 hx1 hy0 hy1 hz0 hz1
  go_enter Tryz.func7, Tryz.ntmps7
  go_wp2_with fail
  refine (shown_calls _ HV.out).mono ?_
  rintro e w2 ⟨rfl, k2⟩
  have K2 := Lib.hid k2
  clear k2
  go_wp2_with fail
  refine (new_calls 30 _ (by decide) (by decide)).mono ?_
  rintro e w3 ⟨g, bw, bh, rfl, ha, hc, l1, l2, l3⟩
  have HGG := Lib.hid (show w2.heap.size ≤ g ∧ w2.heap.size ≤ bw ∧ w2.heap.size ≤ bh from ⟨l1, l2, l3⟩)
  have K3 := Lib.hid (K2.out.sub hc)
  have HA3 := Lib.hid ha
  clear ha hc l1 l2 l3
  go_wp2_with fail
  refine (WX.out w3).mono ?_
  rintro e w4 ⟨rfl, k4⟩
  have K4 := Lib.hid k4
  clear k4
  go_wp2_with fail
  refine (WY.out w4).mono ?_
  rintro e w5 ⟨rfl, k5⟩
  have K5 := Lib.hid (K4.out.sub k5)
  have HA5 := Lib.hid (HA3.out.sub K5.out)
  clear k5
  go_wp2_with fail
  refine (alloc_calls (HA5.out.sub ((Chg.refl [] w5).alloc _)) 1 _ [wN x, wN y] (rd_new _ _ _ rfl HA5.out.lt _ _ _ rfl rfl) (by decide) (by decide) (by show (2 : Nat) ≤ 255; decide) (by show (0 : Nat) + 2 < 30; decide)).mono ?_
  rintro e w6 ⟨rfl, ha6, hc6⟩
  have HA6 := Lib.hid ha6
  rw [show (tot ([] : List Thing) : Int) * 8 + 1 = 1 from rfl]
  have G6 := Lib.hid (((show Chg [g, bw, bh] w3 w5 from K5.out.mono (by simp)).alloc _).trans hc6 (fun b hb => .inl hb))
  clear ha6 hc6 HA3 HA5 K4 K5
  go_wp2_with fail
  refine (WZ.out w6).mono ?_
  rintro e w7 ⟨rfl, k7⟩
  have HA7 := Lib.hid (HA6.out.sub k7)
  have G7 := Lib.hid (G6.out.sub k7)
  clear k7 HA6 G6
  go_wp2_with fail
  refine (alloc_calls (HA7.out.sub ((Chg.refl [] w7).alloc _)) 1 _ [1, wN z] (rd_new _ _ _ rfl HA7.out.lt _ _ _ rfl rfl) (by decide) (by decide) (by show (2 : Nat) ≤ 255; decide) (by show (3 : Nat) + 2 < 30; decide)).mono ?_
  rintro e w8 ⟨rfl, ha8, hc8⟩
  have HA8 := Lib.hid ha8
  rw [show (tot ([] ++ [(1, [wN x, wN y])]) : Int) * 8 + 1 = 25 from rfl]
  have G8 := Lib.hid ((G7.out.alloc _).trans hc8 (fun b hb => .inl hb))
  clear ha8 hc8 HA7 G7
  go_wp2_with fail
  refine (WZ.out w8).mono ?_
  rintro e w9 ⟨rfl, k9⟩
  have HA9 := Lib.hid (HA8.out.sub k9)
  have G9 := Lib.hid (G8.out.sub k9)
  clear k9 HA8 G8
  go_wp2_with fail
  refine (alloc_calls (HA9.out.sub ((Chg.refl [] w9).alloc _)) 1 _ [wN z, 1] (rd_new _ _ _ rfl HA9.out.lt _ _ _ rfl rfl) (by decide) (by decide) (by show (2 : Nat) ≤ 255; decide) (by show (6 : Nat) + 2 < 30; decide)).mono ?_
  rintro e w10 ⟨rfl, ha10, hc10⟩
  have HA10 := Lib.hid ha10
  rw [show (tot (([] ++ [(1, [wN x, wN y])]) ++ [(1, [1, wN z])]) : Int) * 8 + 1 = 49 from rfl]
  have G10 := Lib.hid ((G9.out.alloc _).trans hc10 (fun b hb => .inl hb))
  clear ha10 hc10 HA9 G9
  go_wp2_with fail
  refine (alloc_calls (HA10.out.sub ((Chg.refl [] w10).alloc _)) 1 _ [1, 2] (rd_new _ _ _ rfl HA10.out.lt _ _ _ rfl rfl) (by decide) (by decide) (by show (2 : Nat) ≤ 255; decide) (by show (9 : Nat) + 2 < 30; decide)).mono ?_
  rintro e w11 ⟨rfl, ha11, hc11⟩
  have HA11 := Lib.hid ha11
  rw [show (tot ((([] ++ [(1, [wN x, wN y])]) ++ [(1, [1, wN z])]) ++ [(1, [wN z, 1])]) : Int) * 8 + 1 = 73 from rfl]
  have G11 := Lib.hid ((G10.out.alloc _).trans hc11 (fun b hb => .inl hb))
  have hA : IsAr w11 g bw bh 30 (things x y z) := ha11
  clear ha11 hc11 HA10 G10 HA11
  have KK : Chg [] w w11 := K3.out.trans G11.out (fun b hb => by
    have h3 := HGG.out
    have h4 := K2.out.size
    simp only [List.mem_cons, List.not_mem_nil, or_false] at hb
    rcases hb with rfl | rfl | rfl <;> exact .inr (by omega))
  have HKK := Lib.hid KK
  have EE : Env w11 w11.heap.size (.pointer (some ⟨g, 0, none⟩)) (.pointer none) (things x y z) [] :=
    ⟨⟨g, bw, bh, 30, rfl, hA⟩, .inl ⟨rfl, rfl⟩, HV.out.t.chg KK, Nat.le_refl _, fun o ho v hv => by
      have bx := wN_bd x
      have b_y := wN_bd y
      have bz := wN_bd z
      simp only [things, List.mem_cons, List.not_mem_nil, or_false] at ho
      rcases ho with rfl | rfl | rfl | rfl <;> (simp only [List.mem_cons, List.not_mem_nil, or_false] at hv; rcases hv with rfl | rfl <;> omega), fun s hs => by cases hs⟩
  have HE := Lib.hid EE
  clear hA KK EE G11 K2 K3 HGG HV
  have T1 := Lib.hid (t_p x y z [])
  have T2 := Lib.hid (t_q x y z [])
  have T3 := Lib.hid (t_r x y z [])
  have T4 := Lib.hid (t_s x y z [])
  have WC1 := Lib.hid (word_shown HE.out 1 (by decide) (by decide))
  rw [T1.out] at WC1
  have X1 := Lib.hid (it_len x)
  have X2 := Lib.hid (it_len y)
  have X3 := Lib.hid (it_len z)
  generalize hdx : itoa (x.tmod 1000) = dx at *
  generalize hdy : itoa (y.tmod 1000) = dy at *
  generalize hdz : itoa (z.tmod 1000) = dz at *
  have lx := X1.out
  have ly := X2.out
  have lz := X3.out
  have n1 : 1 + dx.length ≤ 9223372036854775807 := by omega
  have n2 : 1 + dx.length + 3 ≤ 9223372036854775807 := by omega
  have n3 : 1 + dx.length + 3 + dy.length ≤ 9223372036854775807 := by omega
  have n4 : 1 + dx.length + 3 + dy.length + 1 ≤ 9223372036854775807 := by omega
  have m1 : 2 + dx.length ≤ 9223372036854775807 := by omega
  have m2 : 2 + dx.length + 3 ≤ 9223372036854775807 := by omega
  have m3 : 2 + dx.length + 3 + dy.length ≤ 9223372036854775807 := by omega
  have m4 : 2 + dx.length + 3 + dy.length + 4 ≤ 9223372036854775807 := by omega
  have m5 : 2 + dx.length + 3 + dy.length + 4 + dz.length ≤ 9223372036854775807 := by omega
  have m6 : 2 + dx.length + 3 + dy.length + 4 + dz.length + 1 ≤ 9223372036854775807 := by omega
  have r1 : 1 + dz.length ≤ 9223372036854775807 := by omega
  have r2 : 1 + dz.length + 1 ≤ 9223372036854775807 := by omega
  have r3 : 1 + dz.length + 1 + dx.length ≤ 9223372036854775807 := by omega
  have r4 : 1 + dz.length + 1 + dx.length + 3 ≤ 9223372036854775807 := by omega
  have r5 : 1 + dz.length + 1 + dx.length + 3 + dy.length ≤ 9223372036854775807 := by omega
  have r6 : 1 + dz.length + 1 + dx.length + 3 + dy.length + 1 ≤ 9223372036854775807 := by omega
  have s4 : 2 + dx.length + 3 + dy.length + 2 ≤ 9223372036854775807 := by omega
  have E1 : ((40 :: (dx ++ 32 :: 46 :: 32 :: (dy ++ [41]))) == (⟨#[40]⟩ ++ ⟨dx.toArray⟩ ++ ⟨#[32, 46, 32]⟩ ++ ⟨dy.toArray⟩ ++ ⟨#[41]⟩ : ByteArray).toList) = true := eq_bytes (by apply ByteArray.ext; simp)
  have E2 : ((40 :: 40 :: (dx ++ 32 :: 46 :: 32 :: (dy ++ 41 :: 32 :: 46 :: 32 :: (dz ++ [41])))) == (⟨#[40, 40]⟩ ++ ⟨dx.toArray⟩ ++ ⟨#[32, 46, 32]⟩ ++ ⟨dy.toArray⟩ ++ ⟨#[41, 32, 46, 32]⟩ ++ ⟨dz.toArray⟩ ++ ⟨#[41]⟩ : ByteArray).toList) = true := eq_bytes (by apply ByteArray.ext; simp)
  have E3 : ((40 :: (dz ++ 32 :: (dx ++ 32 :: 46 :: 32 :: (dy ++ [41])))) == (⟨#[40]⟩ ++ ⟨dz.toArray⟩ ++ ⟨#[32]⟩ ++ ⟨dx.toArray⟩ ++ ⟨#[32, 46, 32]⟩ ++ ⟨dy.toArray⟩ ++ ⟨#[41]⟩ : ByteArray).toList) = true := eq_bytes (by apply ByteArray.ext; simp)
  have E4 : ((40 :: 40 :: (dx ++ 32 :: 46 :: 32 :: (dy ++ [41, 41]))) == (⟨#[40, 40]⟩ ++ ⟨dx.toArray⟩ ++ ⟨#[32, 46, 32]⟩ ++ ⟨dy.toArray⟩ ++ ⟨#[41, 41]⟩ : ByteArray).toList) = true := eq_bytes (by apply ByteArray.ext; simp)
  clear hdx hdy hdz X1 X2 X3 lx ly lz
  go_wp2_with fail
  refine WC1.out.mono ?_
  rintro e w12 ⟨rfl, k12⟩
  have KE := Lib.hid k12
  clear k12
  go_wp2_with fail
  refine (DX.out w12).mono ?_
  rintro e w13 ⟨rfl, k13⟩
  replace KE := Lib.hid (KE.out.sub k13)
  clear k13
  go_wp2_with fail
  refine (DY.out w13).mono ?_
  rintro e w14 ⟨rfl, k14⟩
  replace KE := Lib.hid (KE.out.sub k14)
  clear k14
  go_wp2_with fail
  have WC2 := Lib.hid (word_shown (HE.out.chg KE.out) 25 (by decide) (by decide))
  rw [show wordX (pairP (things x y z)) (plainP (things x y z) []) 25 = _ from T2.out] at WC2
  refine WC2.out.mono ?_
  rintro e w15 ⟨rfl, k15⟩
  replace KE := Lib.hid (KE.out.sub k15)
  clear k15
  go_wp2_with fail
  refine (DX.out w15).mono ?_
  rintro e w16 ⟨rfl, k16⟩
  replace KE := Lib.hid (KE.out.sub k16)
  clear k16
  go_wp2_with fail
  refine (DY.out w16).mono ?_
  rintro e w17 ⟨rfl, k17⟩
  replace KE := Lib.hid (KE.out.sub k17)
  clear k17
  go_wp2_with fail
  refine (DZ.out w17).mono ?_
  rintro e w18 ⟨rfl, k18⟩
  replace KE := Lib.hid (KE.out.sub k18)
  clear k18
  go_wp2_with fail
  have WC3 := Lib.hid (word_shown (HE.out.chg KE.out) 49 (by decide) (by decide))
  rw [show wordX (pairP (things x y z)) (plainP (things x y z) []) 49 = _ from T3.out] at WC3
  refine WC3.out.mono ?_
  rintro e w19 ⟨rfl, k19⟩
  replace KE := Lib.hid (KE.out.sub k19)
  clear k19
  go_wp2_with fail
  refine (DZ.out w19).mono ?_
  rintro e w20 ⟨rfl, k20⟩
  replace KE := Lib.hid (KE.out.sub k20)
  clear k20
  go_wp2_with fail
  refine (DX.out w20).mono ?_
  rintro e w21 ⟨rfl, k21⟩
  replace KE := Lib.hid (KE.out.sub k21)
  clear k21
  go_wp2_with fail
  refine (DY.out w21).mono ?_
  rintro e w22 ⟨rfl, k22⟩
  replace KE := Lib.hid (KE.out.sub k22)
  clear k22
  go_wp2_with fail
  have WC4 := Lib.hid (word_shown (HE.out.chg KE.out) 73 (by decide) (by decide))
  rw [show wordX (pairP (things x y z)) (plainP (things x y z) []) 73 = _ from T4.out] at WC4
  refine WC4.out.mono ?_
  rintro e w23 ⟨rfl, k23⟩
  replace KE := Lib.hid (KE.out.sub k23)
  clear k23
  go_wp2_with fail
  refine (DX.out w23).mono ?_
  rintro e w24 ⟨rfl, k24⟩
  replace KE := Lib.hid (KE.out.sub k24)
  clear k24
  go_wp2_with fail
  refine (DY.out w24).mono ?_
  rintro e w25 ⟨rfl, k25⟩
  replace KE := Lib.hid (KE.out.sub k25)
  clear k25
  go_wp2_with fail
  go_ret
  exact ⟨rfl, HKK.out.sub KE.out⟩
theorem walkShowDots (x y z : Int) (w : World) (hL : laidMetH Tryz.prog Rows.showDotsRow.laid w) (hx : (Lit.int .i64 x).wf = true) (hy : (Lit.int .i64 y).wf = true) (hz : (Lit.int .i64 z).wf = true) :
    Calls Tryz.prog 7 #[.int .i64 x, .int .i64 y, .int .i64 z] w fun e w' => e = .returned (.bool true) ∧ Below w.heap.size w w' := by
  have e6 : IntKind.i64.min = -9223372036854775808 ∧ IntKind.i64.max = 9223372036854775807 := by decide
  simp only [Lit.wf, e6.1, e6.2, Bool.and_eq_true, decide_eq_true_eq] at hx hy hz
  exact (dotsw x y z hx.1 (by omega) hy.1 (by omega) hz.1 (by omega) w (varsS_of hL (by kernel_rfl) (by kernel_rfl) (by kernel_rfl))).mono (fun e w' h => ⟨h.1, h.2.below⟩)
end Go.Proofs.YtomhkemdafiphaaGreatDoor.ShowC

/- The walk of PrimPairs: for any words the law answers true; its premises are what the row gives of its argument. -/
import Derived.Test.YtoofnpecofcjjaaPrim3
namespace Go.Proofs.Ytoofnpecofcjjaa.Prim
open Go Go.RowKit Go.Proofs.Ytoofnpecofcjjaa.Heap Go.Proofs.Ytoofnpecofcjjaa.Word Go.Proofs.Ytoofnpecofcjjaa.Own Go.Proofs.Ytoofnpecofcjjaa.Ar Go.Proofs.Ytoofnpecofcjjaa.Pure
attribute [local go_sem] max2_int min2_int max_two min_two
/-- the word that a list of k words is -/
def pl (k : Nat) : Int := if k = 0 then 2 else ((3 * (k - 1) : Nat) : Int) * 8 + 1
theorem pl_succ (k : Nat) : pl (k + 1) = ((3 * k : Nat) : Int) * 8 + 1 := by simp [pl]
theorem pl_ok (k : Nat) (h : k ≤ 30) : okW (pl k) := by unfold pl okW; split <;> omega
/-- the things that are made of the last k words -/
def chn (xs : List Int) : Nat → List Thing
  | 0 => []
  | k + 1 => chn xs k ++ [(1, [xs.getD (xs.length - 1 - k) 0, pl k])]
theorem chn_tot (xs : List Int) (k : Nat) : tot (chn xs k) = 3 * k := by
  induction k with
  | zero => rfl
  | succ k ih => rw [chn, tot_append, ih, tot_cons]; simp [tot]; omega
theorem chn_look (xs : List Int) (k j : Nat) (h : j < k) : Ar.look (chn xs k) (3 * j) = some (1, [xs.getD (xs.length - 1 - j) 0, pl j]) := by
  induction k with
  | zero => omega
  | succ k ih =>
    rw [chn, look_snoc, chn_tot]
    by_cases hj : j < k
    · rw [if_pos (by omega), ih hj]
    · obtain rfl : j = k := by omega
      rw [if_neg (by omega), if_pos rfl]
theorem chn_place (xs : List Int) (k j : Nat) (h : j < k) (hk : k ≤ 30) : place (chn xs k) (pl (j + 1)) = some (1, [xs.getD (xs.length - 1 - j) 0, pl j]) := by
  have e := pl_succ j
  have h1 : pl (j + 1) % 8 = 1 := by omega
  have h2 : pl (j + 1) / 8 = (3 * j : Nat) := by omega
  unfold place
  rw [if_pos ⟨h1, by omega⟩, h2, Int.toNat_natCast, chn_look xs k j h]
section
variable (xs : List Int) (k j : Nat) (h : j < k) (hk : k ≤ 30)
include h hk
theorem chn_pair : pairA (chn xs k) (pl (j + 1)) = true := by
  unfold pairA kindA lenA; rw [chn_place xs k j h hk]; rfl
theorem ask_pair : oneA (chn xs k) 11 (pl (j + 1)) = (18, 0) := by
  rw [show oneA (chn xs k) 11 (pl (j + 1)) = (boolP (pairA (chn xs k) (pl (j + 1))), 0) from rfl, chn_pair xs k j h hk]; rfl
theorem ask_car : oneA (chn xs k) 13 (pl (j + 1)) = (xs.getD (xs.length - 1 - j) 0, 0) := by
  rw [show oneA (chn xs k) 13 (pl (j + 1)) = if pairA (chn xs k) (pl (j + 1)) = true then getA (chn xs k) (pl (j + 1)) 0 else (0, 100) from rfl, chn_pair xs k j h hk, if_pos rfl]
  unfold getA; rw [chn_place xs k j h hk]; rfl
theorem ask_cdr : oneA (chn xs k) 14 (pl (j + 1)) = (pl j, 0) := by
  rw [show oneA (chn xs k) 14 (pl (j + 1)) = if pairA (chn xs k) (pl (j + 1)) = true then getA (chn xs k) (pl (j + 1)) 1 else (0, 100) from rfl, chn_pair xs k j h hk, if_pos rfl]
  unfold getA; rw [chn_place xs k j h hk]; rfl
end
theorem ask_null (l : List Thing) (j : Nat) : oneA l 10 (pl (j + 1)) = (10, 0) := by
  rw [show oneA l 10 (pl (j + 1)) = (boolP (pl (j + 1) == 2), 0) from rfl, show (pl (j + 1) == 2) = false by rw [pl_succ]; simp; omega]; rfl
theorem place_nil (l : List Thing) : place l 2 = none := by unfold place; rw [if_neg (by decide)]
theorem ask_nil_car (l : List Thing) : oneA l 13 2 = (0, 100) := by
  rw [show oneA l 13 2 = if pairA l 2 = true then getA l 2 0 else (0, 100) from rfl, show pairA l 2 = false by unfold pairA kindA; rw [place_nil]; rfl]; rfl
theorem ask_nil_cdr (l : List Thing) : oneA l 14 2 = (0, 100) := by
  rw [show oneA l 14 2 = if pairA l 2 = true then getA l 2 1 else (0, 100) from rfl, show pairA l 2 = false by unfold pairA kindA; rw [place_nil]; rfl]; rfl
set_option maxRecDepth 100000 in
set_option maxHeartbeats 1000000 in
theorem walkPairs (A : Option Addr) (len cap : Nat) (zs : List Int) (w : World) (hz : IsRow .u64 w A len cap zs) (hy : len * 8 ≤ 140737488351232) :
    Calls Try.prog 4 #[.slice A len cap] w fun e w' => e = .returned (.bool true) ∧ Below w.heap.size w w' := by
  obtain ⟨m, hmin, m1, m2, _⟩ := min_nat len 30 30 rfl
  have hlc : len ≤ cap := by rcases hz with ⟨_, rfl, rfl, _⟩ | ⟨_, _, h, _⟩ <;> omega
  have hlz : (zs.take m).length = m := by
    rcases hz with ⟨_, rfl, rfl, rfl⟩ | ⟨_, _, h, _, h2, _⟩
    · simp; omega
    · simp; omega
  have hsrc := hz.src m m1 cap
  have hwf : ∀ (j : Nat) (x : Int), (zs.take m)[j]? = some x → okW x := by
    intro j x hj
    rcases hz with ⟨_, _, _, rfl⟩ | ⟨_, _, _, _, _, _, h2⟩
    · simp at hj
    · exact wf_u64 (h2 x (List.mem_of_mem_take (List.mem_of_getElem? hj)))
  generalize zs.take m = xs at *
  clear hz
  have t0 : tot [] = 0 := rfl
  go_enter Try.func4, Try.ntmps4
  go_wp2_with fail
  refine (shown_calls _).mono ?_
  rintro e w0 ⟨rfl, hc0⟩
  go_wp2_with fail
  refine (new_calls 100 _ (by decide) (by decide)).mono ?_
  rintro e w1 ⟨g, bw, bh, rfl, ha, hc1, l1, l2, l3⟩
  have hch : Chg [] w w1 := hc0.sub hc1
  have hs1 := hc0.size
  have hgs : ∀ b, b ∈ [g, bw, bh] → w.heap.size ≤ b := by
    intro b hb; simp only [List.mem_cons, List.not_mem_nil, or_false] at hb
    rcases hb with rfl | rfl | rfl <;> omega
  go_wp2_with fail
  have pos : 0 < m → ∃ b o, A = some ⟨b, o, none⟩ := fun h => by obtain ⟨b, o, h1, _⟩ := hsrc.pl h (by decide); exact ⟨b, o, h1⟩
  go_loopw [47, 7] (fun i v wr => ∃ k : Nat, k ≤ m ∧ i = .int .i64 k ∧ v = .int .u64 (pl k) ∧ IsAr wr g bw bh 100 (chn xs k) ∧ Chg [g, bw, bh] w1 wr) (fun i _ _ => m - (intOf i).toNat)
  case atStart => exact ⟨0, Nat.zero_le _, rfl, rfl, ha, Chg.refl _ _⟩
  case round =>
    obtain ⟨k, hk, rfl, rfl, har, hcr⟩ := hrel
    by_cases hlt : k < m
    · obtain ⟨b, o, rfl, hbl, hcell⟩ := (hsrc.past (hch.trans hcr (fun b hb => .inr (hgs b hb)) |>.mono (G := [g, bw, bh]) (by simp)) hgs).pl (by omega) (by decide)
      obtain ⟨x, hx⟩ : ∃ x, xs[m - 1 - k]? = some x := ⟨_, List.getElem?_eq_getElem (by omega)⟩
      have hq : wr.cell? ⟨b, o + (m - 1 - k), none⟩ = some (.int .u64 x) := hcell _ _ (by simp [nums, hx])
      have hi : ((m : Int) - 1 - (k : Int)).toNat = m - 1 - k := by omega
      have hxd : xs.getD (xs.length - 1 - k) 0 = x := by rw [List.getD_eq_getElem?_getD, hlz, hx]; rfl
      have ox := hwf _ _ hx
      have ht := chn_tot xs k
      have DC := do_cons har x (pl k) ox (pl_ok k (by omega)) (by omega) (chn xs (k + 1)) (by rw [chn, hxd]) (pl (k + 1)) (by rw [ht, pl_succ])
      have hne : (pl (k + 1) == pl k) = false := by
        have := pl_succ k
        unfold pl; simp; split <;> omega
      clear hx hcell
      go_wp2_with fail
      refine DC.mono ?_
      rintro e w2 ⟨rfl, ha2, hc2⟩
      go_wp2_with fail
      go_roundw
      case rel => exact ⟨k + 1, by omega, by go_num, rfl, ha2, hcr.same hc2⟩
      case measure => simp [intOf]; omega
    · obtain rfl : k = m := by omega
      have hall := hch.trans hcr (fun b hb => .inr (hgs b hb))
      clear hch hcr ha hc0 hc1 hmin hk hlt pos
      go_wp2_with fail
      go_loopw [76, 7] (fun i v wx => ∃ r : Nat, r ≤ k ∧ i = .int .i64 r ∧ v = .int .u64 (pl (k - r)) ∧ IsAr wx g bw bh 100 (chn xs k) ∧ Chg [g, bw, bh] wr wx) (fun i _ _ => k - (intOf i).toNat)
      case atStart => exact ⟨0, Nat.zero_le _, rfl, rfl, har, Chg.refl _ _⟩
      case round =>
        obtain ⟨r, hr, rfl, rfl, hax, hcx⟩ := hrel
        by_cases hlt : r < k
        · obtain ⟨j, hj⟩ : ∃ j, k = r + (j + 1) := ⟨k - r - 1, by omega⟩
          rw [show k - r = j + 1 by omega]
          obtain ⟨b, o, rfl, hbl, hcell⟩ := (hsrc.grow (hall.trans hcx (fun b hb => .inr (hgs b hb)))).pl (by omega) (by decide)
          obtain ⟨x, hx⟩ : ∃ x, xs[r]? = some x := ⟨_, List.getElem?_eq_getElem (by omega)⟩
          have hq : wr.cell? ⟨b, o + r, none⟩ = some (.int .u64 x) := hcell _ _ (by simp [nums, hx])
          have hxd : xs.getD (xs.length - 1 - j) 0 = x := by rw [List.getD_eq_getElem?_getD, hlz, show k - 1 - j = r by omega, hx]; rfl
          have ex : (x == x) = true := by simp
          have ox : okW (pl (j + 1)) := pl_ok _ (by omega)
          have A1 := ask_pair xs k j (by omega) (by omega)
          have A2 := ask_null (chn xs k) j
          have A3 := ask_car xs k j (by omega) (by omega)
          have A4 := ask_cdr xs k j (by omega) (by omega)
          rw [hxd] at A3
          have HCX := Lib.hid hcx
          have HJ := Lib.hid hj
          clear hx hcell hcx hxd hj
          go_wp2_with fail
          refine (do_ask hax 11 _ ox _ A1).mono ?_
          rintro e w3 ⟨rfl, ha3, hc3⟩
          go_wp2_with fail
          refine (do_ask ha3 10 _ ox _ A2).mono ?_
          rintro e w4 ⟨rfl, ha4, hc4⟩
          go_wp2_with fail
          refine (do_ask ha4 13 _ ox _ A3).mono ?_
          rintro e w5 ⟨rfl, ha5, hc5⟩
          go_wp2_with fail
          refine (do_ask ha5 14 _ ox _ A4).mono ?_
          rintro e w6 ⟨rfl, ha6, hc6⟩
          go_wp2_with fail
          refine (do_same ha6 _ _ ox ox 18 (by simp [boolP])).mono ?_
          rintro e w7 ⟨rfl, ha7, hc7⟩
          have c7 := (((hc3.sub hc4).sub hc5).sub hc6).mono (G := [g, bw, bh]) (by simp) |>.same hc7
          go_wp2_with fail
          go_roundw
          case rel => exact ⟨r + 1, by omega, by go_num, by rw [show k - (r + 1) = j by have := HJ.out; omega], ha7, HCX.out.same c7⟩
          case measure => simp [intOf]; omega
        · obtain rfl : r = k := by omega
          rw [Nat.sub_self, show pl 0 = 2 from rfl]
          have oz : okW 2 := by decide
          go_wp2_with fail
          refine (do_ask hax 10 2 oz (18, 0) rfl).mono ?_
          rintro e w3 ⟨rfl, ha3, hc3⟩
          go_wp2_with fail
          refine (do_ask ha3 13 2 oz (0, 100) (ask_nil_car _)).mono ?_
          rintro e w4 ⟨rfl, ha4, hc4⟩
          go_wp2_with fail
          refine (do_ask ha4 14 2 oz (0, 100) (ask_nil_cdr _)).mono ?_
          rintro e w5 ⟨rfl, ha5, hc5⟩
          have ht := chn_tot xs r
          have c5 := ((hcx.sub hc3).sub hc4).sub hc5
          go_wp2_with fail
          refine (used_calls ha5).mono ?_
          rintro e w6 ⟨rfl, rfl⟩
          go_wp2_with fail
          go_ret
          exact ⟨rfl, (hall.trans c5 (fun b hb => .inr (hgs b hb))).below⟩
end Go.Proofs.Ytoofnpecofcjjaa.Prim

/- The walk of ArenaOwn: for any words an arena keeps its own copy of what it is handed; no conditions but the reach of the row. -/
import Derived.Test.YtlaipmakgicnfaaArenaShown
import Derived.Test.YtlaipmakgicnfaaOwn
namespace Go.Proofs.Ytlaipmakgicnfaa.Ar
open Go Go.RowKit Go.Proofs.Ytlaipmakgicnfaa.Heap Go.Proofs.Ytlaipmakgicnfaa.Word Go.Proofs.Ytlaipmakgicnfaa.Own
attribute [local go_sem] max2_int min2_int max_two min_two
set_option maxHeartbeats 1000000 in
theorem walk (A : Option Addr) (len cap : Nat) (zs : List Int) (w : World) (hz : IsRow .u64 w A len cap zs) (hy : len * 8 ≤ 140737488351232) :
    Calls Try.prog 4 #[.slice A len cap] w fun e w' => e = .returned (.bool true) ∧ Below w.heap.size w w' := by
  obtain ⟨m, hmin, m1, m2, _⟩ := min_nat len 20 20 rfl
  have hlc : len ≤ cap := by rcases hz with ⟨_, rfl, rfl, _⟩ | ⟨_, _, h, _⟩ <;> omega
  have hlz : (zs.take m).length = m := by
    rcases hz with ⟨_, rfl, rfl, rfl⟩ | ⟨_, _, h, _, h2, _⟩
    · simp; omega
    · simp; omega
  have ht0 : tot [] = 0 := rfl
  go_enter Try.func4, Try.ntmps4
  go_wp2_with fail
  refine (shown_calls _).mono ?_
  rintro e w0 ⟨rfl, hc0⟩
  go_wp2_with fail
  refine (new_calls 30 _ (by decide) (by decide)).mono ?_
  rintro e w1 ⟨g, bw, bh, rfl, ha, hc1, l1, l2, l3⟩
  go_wp2_with fail
  refine (new_calls 30 _ (by decide) (by decide)).mono ?_
  rintro e w2 ⟨g', bw', bh', rfl, hb, hc2, l1', l2', l3'⟩
  have hs2 := ((hz.src m m1 cap).grow ((hc0.sub hc1).sub hc2))
  have hdis : ∀ b, b ∈ [g', bw', bh'] → b ∉ [g, bw, bh] := by
    intro b hb hm
    have := ha.lt b hm
    simp only [List.mem_cons, List.not_mem_nil, or_false] at hb
    rcases hb with rfl | rfl | rfl <;> omega
  have ha := ha.sub hc2
  have hal := ha.lt
  have hbl := hb.lt
  generalize hxs : zs.take m = xs at *
  clear hz hxs
  go_wp2_with (at_builtin; refine app_lit rfl (.tmp 40) (.tmp 45) 28 rfl 31 (.int .u64 0) 1 8 underWs infoW rfl (by decide) (by decide) rfl _ m (nums .u64 xs) rfl hs2 one_nums (by omega) ?_; intro B1 c1 w3 ho1 hc3)
  refine (alloc_calls (ha.sub hc3) 3 _ xs (rd_own ho1 hal) (by decide) (by decide) (by omega) (by simp [tot]; omega)).mono ?_
  rintro e w4 ⟨rfl, ha4, hc4⟩
  have ho2 := own_keep ho1 hc4 (fun b hb hm => by have := (ho1.lt b hb).1; have := hal b hm; omega)
  have hv4 : ∀ b, (Value.slice B1 m c1).ownBlock = some b → b < w4.heap.size := fun b hb => (ho2.lt b hb).2
  have hw4 : ∀ b, (Value.slice B1 m c1).ownBlock = some b → w2.heap.size ≤ b := fun b hb => (ho2.lt b hb).1
  have hle := hc3.size
  have hle4 := hc4.size
  go_wp2_with (at_builtin; refine app_lit rfl (.tmp 53) (.tmp 54) 28 rfl 31 (.int .u64 0) 1 8 underWs infoW rfl (by decide) (by decide) rfl _ m (nums .u64 xs) rfl (Src.own ho2) one_nums (by omega) ?_; intro B2 c2 w5 ho5 hc5)
  have ho6 := own_keep ho2 hc5 (fun b hb hm => by cases hm)
  have ha5 := ha4.sub hc5
  go_loopw [58] (fun i wr => ∃ k : Nat, k ≤ m ∧ i = .int .i64 k ∧ Chg (ob (.slice B1 m c1)) w5 wr ∧ ∃ ys, wr.ownsRow w2.heap.size 31 1 (.slice B1 m c1) m ys) (fun i _ => m - (intOf i).toNat)
  case atStart => exact ⟨0, Nat.zero_le _, rfl, Chg.refl _ _, _, ho6⟩
  case round =>
    obtain ⟨k, hk, rfl, hcr, ys, hor⟩ := hrel
    by_cases hlt : k < m
    · obtain ⟨g1, c', h1, hg1, hg2, _, _, hcell⟩ := own_at hor (by omega)
      cases h1
      obtain ⟨u, hu⟩ : ∃ u, ys[k]? = some u := ⟨_, List.getElem?_eq_getElem (by have := hor.1; omega)⟩
      obtain ⟨q1, q2⟩ := hcell k u hu
      have hn := own_set hor k (.int .u64 26)
      have hcn : Chg (ob (.slice (some ⟨g1, 0, none⟩) m c1)) w5 _ := hcr.set ⟨g1, k, none⟩ (.int .u64 26) (.inl (mem_ob.2 rfl))
      have HN := Lib.hid hn
      have HC := Lib.hid hcn
      clear hn hcn hcell hor hcr
      go_wp2
      go_roundw
      case rel => exact ⟨k + 1, by omega, by go_num, HC.out, _, HN.out⟩
      case measure => simp [intOf]; omega
    · go_wp2_with fail
      have hB1 : ∀ b, b ∈ ob (.slice B1 m c1) → w2.heap.size ≤ b ∧ b < w4.heap.size := fun b hb => ⟨hw4 b (mem_ob.1 hb), hv4 b (mem_ob.1 hb)⟩
      have hb4 := hb.sub hc3 |>.keep hc4 (hdis _ (by simp)) (hdis _ (by simp)) (hdis _ (by simp)) |>.sub hc5
      have hb6 := hb4.keep hcr (fun h => by have := (hB1 _ h).1; have := hbl g' (by simp); omega) (fun h => by have := (hB1 _ h).1; have := hbl bw' (by simp); omega) (fun h => by have := (hB1 _ h).1; have := hbl bh' (by simp); omega)
      have ha6 := ha5.keep hcr (fun h => by have := (hB1 _ h).1; have := hal g (by simp); omega) (fun h => by have := (hB1 _ h).1; have := hal bw (by simp); omega) (fun h => by have := (hB1 _ h).1; have := hal bh (by simp); omega)
      have hwant := own_keep ho5 hcr (fun b hb hm => by have := (hB1 b hm).2; have := (ho5.lt b hb).1; omega)
      have hsr := hcr.size
      have hs5 := hc5.size
      refine (alloc_calls (hb6.sub ((Chg.refl _ _).alloc _)) 4 _ [18] (rd_new _ _ _ rfl (fun b hm => by have := hbl b hm; omega) _ _ _ rfl rfl) (by decide) (by decide) (by decide) (by decide)).mono ?_
      rintro e w7 ⟨rfl, hb7, hc7⟩
      have hwant7 := own_keep hwant (((Chg.refl [g', bw', bh'] _).alloc _).same hc7) (fun b hb hm => by have := hbl b hm; have := (hwant.lt b hb).1; omega)
      have ha7 := ha6.keep (((Chg.refl [g', bw', bh'] _).alloc _).same hc7) (fun h => hdis _ h (by simp)) (fun h => hdis _ h (by simp)) (fun h => hdis _ h (by simp))
      go_wp2_with fail
      have hchg : Chg [] w w7 := by
        have c0 : Chg [] w w2 := (hc0.sub hc1).sub hc2
        have c1' : Chg [g, bw, bh] w2 w4 := (hc3.mono (fun _ h => by cases h)).same hc4
        have c2' : Chg [] w w4 := c0.trans c1' (fun b hb => .inr (by have := hc0.size; simp only [List.mem_cons, List.not_mem_nil, or_false] at hb; rcases hb with rfl | rfl | rfl <;> omega))
        have s0 := c0.size
        have c3' : Chg [] w wr := (c2'.sub hc5).trans hcr (fun b hb => .inr (by have := (hB1 b hb).1; omega))
        exact (c3'.alloc _).trans hc7 (fun b hb => .inr (by have := hc0.size; have := hc1.size; simp only [List.mem_cons, List.not_mem_nil, or_false] at hb; rcases hb with rfl | rfl | rfl <;> omega))
      have HCH := Lib.hid hchg.below
      have hget : ∀ (j : Nat) (x : Int), xs[j]? = some x → getA ([] ++ [(3, xs)]) 1 (j : Int) = (x, 0) := by
        intro j x hj
        have hjl : j < xs.length := (List.getElem?_eq_some_iff.1 hj).1
        have hp : place ([] ++ [((3 : Int), xs)]) 1 = some (3, xs) := by simp [place, look]
        unfold getA
        rw [hp]
        simp only []
        rw [if_pos ⟨by omega, by omega⟩, Int.toNat_natCast, List.getD_eq_getElem?_getD, hj]; rfl
      clear hchg hwant hb4 hb6 hc0 hc1 hc2 hc3 hc4 hc5 hc7 hs2 hcr hor ho1 ho2 ho5 ho6 hB1 hb
      go_loop [70] (fun i => ∃ k : Nat, k ≤ m ∧ i = .int .i64 k) (fun i => m - (intOf i).toNat)
      case atStart => exact ⟨0, Nat.zero_le _, rfl⟩
      case round =>
        obtain ⟨j, hj, rfl⟩ := hrel
        by_cases hjm : j < m
        · obtain ⟨g2, c', h2, _, _, _, _, hcell⟩ := own_at hwant7 (by omega)
          cases h2
          obtain ⟨x, hx⟩ : ∃ x, xs[j]? = some x := ⟨_, List.getElem?_eq_getElem (by omega)⟩
          obtain ⟨q1, _⟩ := hcell j (.int .u64 x) (by simp [nums, hx])
          have hg := hget j x hx
          have G := get_calls ha7 1 (j : Int) (by decide) (by decide)
          rw [hg] at G
          clear hcell hg hget hwant7
          go_wp2_with (go_at_call 13; refine G.mono ?_; rintro e w8 ⟨rfl, rfl⟩)
          go_round
          case rel => exact ⟨j + 1, by omega, by go_num⟩
          case measure => simp [intOf]; omega
        · have K1 := kind_calls ha7 1 (by decide) (by decide)
          have L1 := len_calls ha7 1 (by decide) (by decide)
          have U1 := used_calls ha7
          have U2 := used_calls hb7
          have e1 : kindA ([] ++ [(3, xs)]) 1 = 3 := by simp [kindA, place, look]
          have e2 : lenA ([] ++ [(3, xs)]) 1 = m := by simp [lenA, place, look, hlz]
          have e3 : tot ([] ++ [((3 : Int), xs)]) = m + 1 := by simp [tot, hlz]
          have e4 : tot ([] ++ [((4 : Int), [(18 : Int)])]) = 2 := by simp [tot]
          rw [e1] at K1
          rw [e2] at L1
          rw [e3] at U1
          rw [e4] at U2
          clear e1 e2 e3 e4 hget
          go_wp2_with (first
            | (go_at_call 15; refine K1.mono ?_; rintro e w8 ⟨rfl, rfl⟩)
            | (go_at_call 16; refine L1.mono ?_; rintro e w8 ⟨rfl, rfl⟩)
            | (go_at_call 14; first | (refine U1.mono ?_; rintro e w8 ⟨rfl, rfl⟩) | (refine U2.mono ?_; rintro e w8 ⟨rfl, rfl⟩)))
          all_goals
            go_ret
            refine ⟨?_, HCH.out⟩
            simp <;> omega
end Go.Proofs.Ytlaipmakgicnfaa.Ar

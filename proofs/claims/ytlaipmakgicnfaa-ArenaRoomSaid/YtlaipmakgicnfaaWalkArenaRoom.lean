/- The walk of ArenaRoom: for any size and any widths the law answers true; its premises are what the row gives of its arguments. -/
import Derived.Test.YtlaipmakgicnfaaArenaShown
import Derived.Test.YtlaipmakgicnfaaOwn
namespace Go.Proofs.Ytlaipmakgicnfaa.Ar
open Go Go.RowKit Go.Proofs.Ytlaipmakgicnfaa.Heap Go.Proofs.Ytlaipmakgicnfaa.Word Go.Proofs.Ytlaipmakgicnfaa.Own
attribute [local go_sem] max2_int min2_int max_two min_two
set_option maxHeartbeats 1000000 in
set_option maxRecDepth 100000 in
theorem walkRoom (sz : Int) (A : Option Addr) (len cap : Nat) (zs : List Int) (w : World) (hsz : (Lit.int .u8 sz).wf = true) (hz : IsRow .u8 w A len cap zs) (hy : len * 1 ≤ 140737488351232) :
    Calls Try.prog 7 #[.int .u8 sz, .slice A len cap] w fun e w' => e = .returned (.bool true) ∧ Below w.heap.size w w' := by
  obtain ⟨m, hmin, m1, m2, _⟩ := min_nat len 100 100 rfl
  have hlc : len ≤ cap := by rcases hz with ⟨_, rfl, rfl, _⟩ | ⟨_, _, h, _⟩ <;> omega
  have hlz : (zs.take m).length = m := by
    rcases hz with ⟨_, rfl, rfl, rfl⟩ | ⟨_, _, h, _, h2, _⟩
    · simp; omega
    · simp; omega
  obtain ⟨s0, s1⟩ := wf_u8 hsz
  obtain ⟨n, hn, n1, n2⟩ : ∃ n : Nat, sz % 200 + 1 = n ∧ 1 ≤ n ∧ n ≤ 200 := ⟨(sz % 200 + 1).toNat, by omega, by omega, by omega⟩
  go_enter Try.func7, Try.ntmps7
  go_wp2_with fail
  refine (shown_calls _).mono ?_
  rintro e w0 ⟨rfl, hc0⟩
  go_wp2_with fail
  refine (new_calls n _ n1 (by omega)).mono ?_
  rintro e w1 ⟨g, bw, bh, rfl, ha, hc1, l1, l2, l3⟩
  have hch : Chg [] w w1 := hc0.sub hc1
  have hs1 := hc0.size
  clear hn
  go_wp2_with (go_at_call 24; refine (size_calls ha).mono ?_; rintro e w2 ⟨rfl, rfl⟩)
  have hsrc := hz.src m m1 cap
  have hwf : ∀ (j : Nat) (x : Int), (zs.take m)[j]? = some x → 0 ≤ x ∧ x < 256 := by
    intro j x hj
    rcases hz with ⟨_, _, _, rfl⟩ | ⟨_, _, _, _, _, _, h2⟩
    · simp at hj
    · exact wf_u8 (h2 x (List.mem_of_mem_take (List.mem_of_getElem? hj)))
  generalize zs.take m = xs at *
  clear hz
  have hgs : ∀ b, b ∈ [g, bw, bh] → w.heap.size ≤ b := by
    intro b hb; simp only [List.mem_cons, List.not_mem_nil, or_false] at hb
    rcases hb with rfl | rfl | rfl <;> omega
  go_loopw [50, 9] (fun i u wr => ∃ (k : Nat) (ts : List Thing), k ≤ m ∧ i = .int .i64 k ∧ u = .int .i64 (tot ts : Int) ∧ IsAr wr g bw bh n ts ∧ Chg [g, bw, bh] w1 wr) (fun i _ _ => m - (intOf i).toNat)
  case atStart => exact ⟨0, [], Nat.zero_le _, rfl, rfl, ha, Chg.refl _ _⟩
  case round =>
    obtain ⟨k, ts, hk, rfl, rfl, har, hcr⟩ := hrel
    by_cases hlt : k < m
    · obtain ⟨ad, rfl, hcell⟩ := (hsrc.past (hch.trans hcr (fun b hb => .inr (hgs b hb)) |>.mono (G := [g, bw, bh]) (by simp)) hgs).at (by omega)
      obtain ⟨x, hx⟩ : ∃ x, xs[k]? = some x := ⟨_, List.getElem?_eq_getElem (by omega)⟩
      have hc1' : wr.cell? (ad.add k) = some (.int .u8 x) := hcell k _ (by simp [nums, hx])
      obtain ⟨x0, x1⟩ := hwf k x hx
      obtain ⟨b, hb, hb10⟩ : ∃ b : Nat, x % 10 = b ∧ b < 10 := ⟨(x % 10).toNat, by omega, by omega⟩
      have hmk := makeWk .u8 b (by omega)
      have hle := har.tot_le
      have HAR := har.sub ((Chg.refl [] wr).alloc (.cells (nums .u64 (List.replicate b 0)).toArray 31))
      have hrd := rd_new (w := wr) (F := [g, bw, bh]) (List.replicate b 0) _ 31 rfl har.lt b b wr.heap.size (by simp) rfl
      have HC0 := (hcr.alloc (.cells (nums .u64 (List.replicate b 0)).toArray 31))
      by_cases hf : tot ts + b + 1 > n
      · have AF := alloc_full HAR 1 (some ⟨wr.heap.size, 0, none⟩) b b (by decide) (by decide) (by omega) (by omega)
        have U := used_calls HAR
        clear hrd hcell hx hwf hsrc
        have HC := Lib.hid HC0
        clear HC0
        have t1 : decide ((tot ts : Int) + b + 1 > n) = true := by simp; omega
        go_wp2_with (first
          | (go_at_call 10; refine AF.mono ?_; rintro e w2 ⟨rfl, rfl⟩)
          | (go_at_call 14; refine U.mono ?_; rintro e w2 ⟨rfl, rfl⟩))
        go_roundw
        case rel => exact ⟨k + 1, ts, by omega, by go_num, rfl, HAR, HC.out⟩
        case measure => simp [intOf]; omega
      · have AF := alloc_calls HAR 1 _ (List.replicate b 0) hrd (by decide) (by decide) (by simp; omega) (by simp; omega)
        clear hcell hx hwf hsrc
        have HC := Lib.hid HC0
        clear HC0
        have t1 : decide ((tot ts : Int) + b + 1 > n) = false := by simp; omega
        have t2 : Go.bits .or .u64 ((tot ts : Int) * 8) 1 = (tot ts : Int) * 8 + 1 := u64_or8 (by omega) (by omega) (by omega) (by omega) (by omega)
        go_wp2_with (go_at_call 10; refine AF.mono ?_; rintro e w2 ⟨rfl, har2, hc2⟩)
        go_roundw
        case rel => exact ⟨k + 1, _, by omega, by go_num, by rw [tot_append]; simp [tot] <;> omega, har2, HC.out.same hc2⟩
        case measure => simp [intOf]; omega
    · have U := used_calls har
      have hfin : Below w.heap.size w wr := ((hch.trans hcr (fun b hb => .inr (hgs b hb)))).below
      have HF := Lib.hid hfin
      clear hfin hch hcr hc0 hc1 hsrc hwf
      go_wp2_with (first
        | (go_at_call 10; first
          | ((with_reducible refine (alloc_none 1 _ 0 0 _ (by decide) (by decide) (by decide)).mono ?_); rintro e w2 ⟨rfl, rfl⟩)
          | ((with_reducible refine (alloc_bad 0 _ 0 0 (.inl (by decide))).mono ?_); rintro e w2 ⟨rfl, rfl⟩))
        | (go_at_call 13; refine (get_nil 1 0 _ (by decide) (by decide)).mono ?_; rintro e w2 ⟨rfl, rfl⟩)
        | (go_at_call 15; refine (kind_nil 1 _ (by decide) (by decide)).mono ?_; rintro e w2 ⟨rfl, rfl⟩)
        | (go_at_call 16; refine (len_nil 1 _ (by decide) (by decide)).mono ?_; rintro e w2 ⟨rfl, rfl⟩)
        | (go_at_call 12; refine (set_nil 1 0 0 _ (by decide) (by decide)).mono ?_; rintro e w2 ⟨rfl, rfl⟩)
        | (go_at_call 24; refine (size_nil _).mono ?_; rintro e w2 ⟨rfl, rfl⟩)
        | (go_at_call 14; first | ((with_reducible refine U.mono ?_); rintro e w2 ⟨rfl, rfl⟩) | ((with_reducible refine (used_nil _).mono ?_); rintro e w2 ⟨rfl, rfl⟩)))
      go_ret
      exact ⟨rfl, HF.out⟩
end Go.Proofs.Ytlaipmakgicnfaa.Ar

/- The walk of ArenaSets: for any acts the law answers true; its premises are what the row gives of its arguments. -/
import Derived.Test.YtlaipmakgicnfaaArenaShown
import Derived.Test.YtlaipmakgicnfaaFew
namespace Go.Proofs.Ytlaipmakgicnfaa.Ar
open Go Go.RowKit Go.Proofs.Ytlaipmakgicnfaa.Heap Go.Proofs.Ytlaipmakgicnfaa.Word Go.Proofs.Ytlaipmakgicnfaa.Own
/-- two things -/
def two (xs ys : List Int) : List Thing := [(1, xs), (2, ys)]
def pAt (k a : Nat) : Int := if k = 0 then 1 else ((a : Int) + 1) * 8 + 1
theorem place0 (xs ys : List Int) (x : Int) (hx : x = 1) : place (two xs ys) x = some (1, xs) := by
  subst hx; simp [place, two, look]
theorem place1 (xs ys : List Int) (x : Int) (hx : x = ((xs.length : Int) + 1) * 8 + 1) (hl : xs.length < 10) : place (two xs ys) x = some (2, ys) := by
  have h1 : x % 8 = 1 := by omega
  have h2 : x / 8 = (xs.length : Int) + 1 := by omega
  unfold place
  rw [if_pos ⟨h1, by omega⟩, h2, show ((xs.length : Int) + 1).toNat = xs.length + 1 by omega]
  simp [two, look]
theorem setA0 (xs ys : List Int) (x i v : Int) (hx : x = 1) (h0 : 0 ≤ i) : setA (two xs ys) x i v = if i < xs.length then (two (xs.set i.toNat v) ys, 0) else (two xs ys, 1) := by
  unfold setA
  rw [place0 xs ys x hx]
  subst hx
  simp only []
  by_cases h : i < xs.length
  · rw [if_pos ⟨h0, h⟩, if_pos h]; simp [two, setT]
  · rw [if_neg (fun q => h q.2), if_neg h]
theorem setA1 (xs ys : List Int) (x i v : Int) (hx : x = ((xs.length : Int) + 1) * 8 + 1) (hl : xs.length < 10) (h0 : 0 ≤ i) : setA (two xs ys) x i v = if i < ys.length then (two xs (ys.set i.toNat v), 0) else (two xs ys, 1) := by
  unfold setA
  rw [place1 xs ys x hx hl]
  simp only []
  by_cases h : i < ys.length
  · rw [if_pos ⟨h0, h⟩, if_pos h, show (x / 8).toNat = xs.length + 1 by omega]; simp [two, setT]; omega
  · rw [if_neg (fun q => h q.2), if_neg h]
theorem getA0 (xs ys : List Int) (x : Int) (i : Nat) (u : Int) (hx : x = 1) (hu : xs[i]? = some u) : getA (two xs ys) x i = (u, 0) := by
  have hi : i < xs.length := (List.getElem?_eq_some_iff.1 hu).1
  unfold getA
  rw [place0 xs ys x hx]
  simp only []
  rw [if_pos ⟨by omega, by omega⟩, Int.toNat_natCast, List.getD_eq_getElem?_getD, hu]; rfl
theorem getA1 (xs ys : List Int) (x : Int) (i : Nat) (u : Int) (hx : x = ((xs.length : Int) + 1) * 8 + 1) (hl : xs.length < 10) (hu : ys[i]? = some u) : getA (two xs ys) x i = (u, 0) := by
  have hi : i < ys.length := (List.getElem?_eq_some_iff.1 hu).1
  unfold getA
  rw [place1 xs ys x hx hl]
  simp only []
  rw [if_pos ⟨by omega, by omega⟩, Int.toNat_natCast, List.getD_eq_getElem?_getD, hu]; rfl
theorem rd_blk {w : World} {F : List Nat} {b n c : Nat} {xs : List Int} {t : TypeId} (h : w.heap[b]? = some (.cells (nums .u64 xs).toArray t (0, 0))) (hF : b ∉ F) (hn : n = xs.length) : Rd w F (.slice (some ⟨b, 0, none⟩) n c) xs := by
  subst hn
  exact ⟨_, c, rfl, fun _ => ⟨b, 0, rfl, hF, fun j x hj => by rw [blk_cell h, Nat.zero_add, nums_get, hj]; rfl⟩⟩
/-- what holds at the head of each round: the arena's two things are what the two slices hold -/
def StS (g bw bh b0 b1 a b : Nat) (W : World) : Prop := ∃ xs ys : List Int, xs.length = a ∧ ys.length = b ∧ IsAr W g bw bh 30 (two xs ys) ∧
  W.heap[b0]? = some (.cells (nums .u64 xs).toArray 31 (0, 0)) ∧ W.heap[b1]? = some (.cells (nums .u64 ys).toArray 31 (0, 0))
theorem StS.keep {g bw bh b0 b1 a b : Nat} {W W' : World} {F : List Nat} (h : StS g bw bh b0 b1 a b W) (hc : Chg F W W') (hF : ∀ x, x ∈ [g, bw, bh, b0, b1] → x ∉ F) : StS g bw bh b0 b1 a b W' := by
  obtain ⟨xs, ys, h1, h2, h3, h4, h5⟩ := h
  exact ⟨xs, ys, h1, h2, h3.keep hc (hF _ (by simp)) (hF _ (by simp)) (hF _ (by simp)), hc.at h4 (hF _ (by simp)), hc.at h5 (hF _ (by simp))⟩
theorem StS.sel {g bw bh b0 b1 a b : Nat} {W : World} (h : StS g bw bh b0 b1 a b W) (ha : a < 10) (hne : b0 ≠ b1) (hF : ∀ x, x ∈ [b0, b1] → x ∉ [g, bw, bh]) (q : Nat) (hq : q < 2) (i v : Int) (hi : 0 ≤ i) :
    ∃ (l : List Thing) (zs : List Int), IsAr W g bw bh 30 l ∧ zs.length = (if q = 0 then a else b) ∧ W.heap[(if q = 0 then b0 else b1)]? = some (.cells (nums .u64 zs).toArray 31 (0, 0)) ∧
      (setA l (pAt q a) i v).2 = (if i < zs.length then 0 else 1) ∧
      (¬ i < zs.length → ∀ W', IsAr W' g bw bh 30 (setA l (pAt q a) i v).1 → Chg [bw] W W' → StS g bw bh b0 b1 a b W') ∧
      (i < zs.length → ∀ W', IsAr W' g bw bh 30 (setA l (pAt q a) i v).1 → Chg [bw] W W' → StS g bw bh b0 b1 a b (W'.setCell ⟨(if q = 0 then b0 else b1), i.toNat, none⟩ (.int .u64 v))) := by
  obtain ⟨xs, ys, h1, h2, h3, h4, h5⟩ := h
  have n0 : b0 ∉ [bw] := fun hm => hF b0 (by simp) (by simp at hm; subst hm; simp)
  have n1 : b1 ∉ [bw] := fun hm => hF b1 (by simp) (by simp at hm; subst hm; simp)
  have set_keep : ∀ (W' : World) (l : List Thing) (bk : Nat) (u : Value), bk ∈ [b0, b1] → IsAr W' g bw bh 30 l → IsAr (W'.setCell ⟨bk, i.toNat, none⟩ u) g bw bh 30 l := fun W' l bk u hk hI =>
    hI.keep ((Chg.refl [bk] W').set ⟨bk, i.toNat, none⟩ u (.inl (by simp))) (fun hm => hF bk hk (by simp at hm; subst hm; simp)) (fun hm => hF bk hk (by simp at hm; subst hm; simp)) (fun hm => hF bk hk (by simp at hm; subst hm; simp))
  rcases (show q = 0 ∨ q = 1 by omega) with rfl | rfl
  · have e := setA0 xs ys (pAt 0 a) i v rfl hi
    refine ⟨two xs ys, xs, h3, by simpa using h1, by simpa using h4, ?_, ?_, ?_⟩
    · rw [e]; split <;> rfl
    · intro hn W' hI hc
      rw [e, if_neg hn] at hI
      exact ⟨xs, ys, h1, h2, hI, hc.at h4 n0, hc.at h5 n1⟩
    · intro hn W' hI hc
      rw [e, if_pos hn] at hI
      rw [if_pos rfl]
      refine ⟨xs.set i.toNat v, ys, by simpa using h1, h2, set_keep _ _ _ _ (by simp) hI, ?_, blk_far (hc.at h5 n1) hne.symm _⟩
      rw [blk_set (hc.at h4 n0), nums_set]
  · have e := setA1 xs ys (pAt 1 a) i v (by simp [pAt, h1]) (by omega) hi
    refine ⟨two xs ys, ys, h3, by simpa using h2, by simpa using h5, ?_, ?_, ?_⟩
    · rw [e]; split <;> rfl
    · intro hn W' hI hc
      rw [e, if_neg hn] at hI
      exact ⟨xs, ys, h1, h2, hI, hc.at h4 n0, hc.at h5 n1⟩
    · intro hn W' hI hc
      rw [e, if_pos hn] at hI
      rw [if_neg (by decide)]
      refine ⟨xs, ys.set i.toNat v, h1, by simpa using h2, set_keep _ _ _ _ (by simp) hI, blk_far (hc.at h4 n0) hne _, ?_⟩
      rw [blk_set (hc.at h5 n1), nums_set]
theorem StS.sel2 {g bw bh b0 b1 a b : Nat} {W : World} (h : StS g bw bh b0 b1 a b W) (ha : a < 10) (q : Nat) (hq : q < 2) :
    ∃ (l : List Thing) (zs : List Int), IsAr W g bw bh 30 l ∧ zs.length = (if q = 0 then a else b) ∧ W.heap[(if q = 0 then b0 else b1)]? = some (.cells (nums .u64 zs).toArray 31 (0, 0)) ∧
      ∀ (j : Nat) (u : Int), zs[j]? = some u → getA l (pAt q a) (j : Int) = (u, 0) := by
  obtain ⟨xs, ys, h1, h2, h3, h4, h5⟩ := h
  rcases (show q = 0 ∨ q = 1 by omega) with rfl | rfl
  · exact ⟨two xs ys, xs, h3, by simpa using h1, by simpa using h4, fun j u hu => getA0 xs ys _ j u rfl hu⟩
  · exact ⟨two xs ys, ys, h3, by simpa using h2, by simpa using h5, fun j u hu => getA1 xs ys _ j u (by simp [pAt, h1]) (by omega) hu⟩
theorem StS.used {g bw bh b0 b1 a b : Nat} {W : World} (h : StS g bw bh b0 b1 a b W) : ∃ l, IsAr W g bw bh 30 l ∧ tot l = 2 + a + b := by
  obtain ⟨xs, ys, h1, h2, h3, _⟩ := h
  exact ⟨_, h3, by simp [two, tot]; omega⟩
theorem StS.drew {g bw bh b0 b1 a b : Nat} {W : World} (h : StS g bw bh b0 b1 a b W) : StS g bw bh b0 b1 a b W.drew := by
  obtain ⟨xs, ys, h1, h2, h3, h4, h5⟩ := h
  exact ⟨xs, ys, h1, h2, h3.drew, h4, h5⟩
theorem pAt_wf (q a : Nat) (ha : a < 10) : 0 ≤ pAt q a ∧ pAt q a < 18446744073709551616 := by unfold pAt; split <;> omega
set_option maxHeartbeats 1000000 in
set_option maxRecDepth 100000 in
theorem walkSets (n m : Int) (A : Option Addr) (c : Nat) (al : List AAct) (w : World) (hn : (Lit.int .u8 n).wf = true) (hm : (Lit.int .u8 m).wf = true)
    (hs : Src w 6 (.slice A al.length c) al.length (al.flatMap AAct.cells)) (hok : ∀ a ∈ al, a.Ok w) (hlc : al.length ≤ c) (hc : c ≤ maxLen) :
    Calls Try.prog 3 #[.int .u8 n, .int .u8 m, .slice A al.length c] w fun e w' => e = .returned (.bool true) ∧ Below w.heap.size w w' := by
  obtain ⟨n0, n1⟩ := wf_u8 hn
  obtain ⟨m0, m1⟩ := wf_u8 hm
  obtain ⟨a, ea, ha10⟩ : ∃ a : Nat, n % 10 = a ∧ a < 10 := ⟨(n % 10).toNat, by omega, by omega⟩
  obtain ⟨b, eb, hb10⟩ : ∃ b : Nat, m % 10 = b ∧ b < 10 := ⟨(m % 10).toNat, by omega, by omega⟩
  have mka := makeWk .u8 a (by omega)
  have mkb := makeWk .u8 b (by omega)
  have ht0 : tot [] = 0 := rfl
  go_enter Try.func3, Try.ntmps3
  go_wp2_with fail
  refine (shown_calls _).mono ?_
  rintro e w0 ⟨rfl, hc0⟩
  go_wp2_with fail
  refine (new_calls 30 _ (by decide) (by decide)).mono ?_
  rintro e w1 ⟨g, bw, bh, rfl, ha, hc1, l1, l2, l3⟩
  go_upto_region 5 with fail
  go_cut [10] (fun s10 wx => ∃ gw b0 b1, s10 = .pointer (some ⟨gw, 0, none⟩) ∧ wx.heap[gw]? = some (.cells #[.slice (some ⟨b0, 0, none⟩) a a, .slice (some ⟨b1, 0, none⟩) b b] 29 (0, 0)) ∧
    wx.heap[b0]? = some (.cells (nums .u64 (List.replicate a 0)).toArray 31 (0, 0)) ∧ wx.heap[b1]? = some (.cells (nums .u64 (List.replicate b 0)).toArray 31 (0, 0)) ∧ Chg [] w1 wx ∧
    w1.heap.size ≤ gw ∧ w1.heap.size ≤ b0 ∧ w1.heap.size ≤ b1 ∧ b0 ≠ b1)
  case first =>
    go_region
    all_goals
      go_wp2
      go_meet
      exact ⟨_, _, _, rfl, (by first | exact blk_new (by simp) | exact blk_old (by simp <;> omega) (blk_new (by simp)) | exact blk_old (by simp <;> omega) (blk_old (by simp <;> omega) (blk_new (by simp)))), (by first | exact blk_new (by simp) | exact blk_old (by simp <;> omega) (blk_new (by simp)) | exact blk_old (by simp <;> omega) (blk_old (by simp <;> omega) (blk_new (by simp)))), (by first | exact blk_new (by simp) | exact blk_old (by simp <;> omega) (blk_new (by simp)) | exact blk_old (by simp <;> omega) (blk_old (by simp <;> omega) (blk_new (by simp)))), ((((Chg.refl _ _).alloc _).alloc _).alloc _).drew, by omega, by omega, by omega, by omega⟩
  case rest =>
    obtain ⟨gw, b0, b1, rfl, hw, hb0, hb1, hc2, k1, k2, k3, hne⟩ := hcut
    have hal := ha.lt
    have hs01 := hc0.size
    have hs12 := hc1.size
    have gne : gw ≠ b0 ∧ gw ≠ b1 := ⟨blk_ne hw hb0 (by decide), blk_ne hw hb1 (by decide)⟩
    have hw0 : wc.cell? ⟨gw, 0, none⟩ = some (.slice (some ⟨b0, 0, none⟩) a a) := by rw [blk_cell hw]; rfl
    have hw1 : wc.cell? ⟨gw, 1, none⟩ = some (.slice (some ⟨b1, 0, none⟩) b b) := by rw [blk_cell hw]; rfl
    have hF : ∀ x, w1.heap.size ≤ x → x ∉ [g, bw, bh] := fun x hx hm => by have := hal x hm; omega
    go_wp2_with fail
    refine (alloc_calls (ha.sub hc2) 1 _ (List.replicate a 0) (rd_blk hb0 (hF _ k2) (by simp)) (by decide) (by decide) (by simp; omega) (by simp; omega)).mono ?_
    rintro e w2 ⟨rfl, ha2, hc3⟩
    have hw2 := hc3.at hw (hF _ k1)
    have hb02 := hc3.at hb0 (hF _ k2)
    have hb12 := hc3.at hb1 (hF _ k3)
    clear hw0 hw1
    have hw0 : w2.cell? ⟨gw, 0, none⟩ = some (.slice (some ⟨b0, 0, none⟩) a a) := by rw [blk_cell hw2]; rfl
    have hw1 : w2.cell? ⟨gw, 1, none⟩ = some (.slice (some ⟨b1, 0, none⟩) b b) := by rw [blk_cell hw2]; rfl
    go_wp2_with fail
    refine (alloc_calls ha2 2 _ (List.replicate b 0) (rd_blk hb12 (hF _ k3) (by simp)) (by decide) (by decide) (by simp; omega) (by simp [tot]; omega)).mono ?_
    rintro e w3 ⟨rfl, ha3, hc4⟩
    have hw3 := hc4.at hw2 (hF _ k1)
    have hb03 := hc4.at hb02 (hF _ k2)
    have hb13 := hc4.at hb12 (hF _ k3)
    have hall : Chg [] w w3 := ((hc0.sub hc1).sub hc2).trans (hc3.same hc4) (fun x hx => .inr (by have := hc0.size; simp only [List.mem_cons, List.not_mem_nil, or_false] at hx; rcases hx with rfl | rfl | rfl <;> omega))
    have ht1 : tot [((1 : Int), List.replicate a (0 : Int))] = a + 1 := by simp [tot]
    have HS := (hs.past hall (fun _ h => by cases h))
    have HK := fun x hx => (hok x hx).past hall (fun _ h => by cases h)
    have hL := fun (w' : World) => few_calls A c al w'
    have s1 := hc2.size
    have s2 := hc3.size
    have s3 := hc4.size
    clear hs hok hc0 hc1 hc2 hc3 hc4 ha2 hw2 hb02 hb12 hw0 hw1 hw hb0 hb1
    go_wp2_with fail
    refine (hL _ (HS.grow ((Chg.refl _ _).alloc _)) (fun x hx => (HK x hx).past ((Chg.refl [] _).alloc _) (fun _ h => by cases h)) hlc hc).mono ?_
    rintro e w4 ⟨B, kk, rfl, ho4, hc5⟩
    have ha5 := ha3.sub (((Chg.refl [] w3).alloc _).sub hc5)
    have hga := hc5.at (k := w3.heap.size) (blk_new rfl) (by simp)
    have hw4 := hc5.at (blk_old (blk_lt hw3) hw3) (by simp)
    have hb04 := hc5.at (blk_old (blk_lt hb03) hb03) (by simp)
    have hb14 := hc5.at (blk_old (blk_lt hb13) hb13) (by simp)
    have s4 := hc5.size
    have hall4 := (hall.alloc _).sub hc5
    have l3w := blk_lt hw3
    have l30 := blk_lt hb03
    have l31 := blk_lt hb13
    have st4 : StS g bw bh b0 b1 a b w4 := ⟨_, _, by simp, by simp, ha5, hb04, hb14⟩
    have s5 : w3.heap.size + 1 ≤ w4.heap.size := by simpa using s4
    have s0 := hall.size
    have hbase : (w3.alloc (Obj.cells #[Value.int IntKind.u64 1, Value.int IntKind.u64 (((a : Int) + 1) * 8 + 1)] 34)).heap.size = w3.heap.size + 1 := by simp
    have hact : ∀ x ∈ (al.take 80).map cutAct, (0 ≤ x.kind ∧ x.kind < 256) ∧ (-9223372036854775808 ≤ x.i ∧ x.i < 9223372036854775808) ∧ (0 ≤ x.x ∧ x.x < 18446744073709551616) := by
      intro x hx
      obtain ⟨y, hy, rfl⟩ := List.mem_map.1 hx
      have := HK y (List.mem_of_mem_take hy)
      exact ⟨this.kind, this.i, this.x⟩
    have hql : ((al.take 80).map cutAct).length = (al.take 80).length := by simp
    have hq80 : (al.take 80).length ≤ 80 := by simp; omega
    rw [hbase] at ho4
    generalize (al.take 80).map cutAct = L at *
    generalize (al.take 80).length = q at *
    clear HS HK hL hc5 ha3 hw3 hb03 hb13 hall ha5 hb04 hb14
    go_wp2_with fail
    have hall0 : w.heap.size ≤ w0.heap.size ∧ w0.heap.size ≤ w1.heap.size := ⟨hs01, hs12⟩
    have hF2 : ∀ x, x ∈ [b0, b1] → x ∉ [g, bw, bh] := by
      intro x hx; simp only [List.mem_cons, List.not_mem_nil, or_false] at hx
      rcases hx with rfl | rfl
      · exact hF _ k2
      · exact hF _ k3
    go_loopw [69] (fun i wr => ∃ k : Nat, k ≤ q ∧ i = .int .i64 k ∧ StS g bw bh b0 b1 a b wr ∧ Chg [g, bw, bh, b0, b1] w4 wr) (fun i _ => q - (intOf i).toNat)
    case atStart => exact ⟨0, Nat.zero_le _, rfl, st4, Chg.refl _ _⟩
    case round =>
      obtain ⟨k, hk, rfl, st, hcr⟩ := hrel
      have hbs : ∀ x, x ∈ [g, bw, bh, b0, b1] → x < w3.heap.size := by
        intro x hx; simp only [List.mem_cons, List.not_mem_nil, or_false] at hx
        rcases hx with rfl | rfl | rfl | rfl | rfl
        · have := hal x (by simp); omega
        · have := hal x (by simp); omega
        · have := hal x (by simp); omega
        · exact l30
        · exact l31
      have hwr := hcr.at hw4 (fun hm => by simp only [List.mem_cons, List.not_mem_nil, or_false] at hm; rcases hm with h | h | h | h | h; exact hF _ k1 (by simp [h]); exact hF _ k1 (by simp [h]); exact hF _ k1 (by simp [h]); exact gne.1 h; exact gne.2 h)
      have hgr := hcr.at hga (fun hm => by have := hbs _ hm; omega)
      have hor := own_keep ho4 hcr (fun x hx hm => by have := (ho4.lt x hx).1; have := hbs x hm; omega)
      by_cases hlt : k < q
      · obtain ⟨x, hx⟩ : ∃ x, L[k]? = some x := ⟨_, List.getElem?_eq_getElem (by omega)⟩
        obtain ⟨ab, ao, rfl, hab, hcell⟩ := (Src.own hor).pl (by omega) (by decide)
        have cell : ∀ (j : Nat) (u : Value), x.cells[j]? = some u → wr.cell? ⟨ab, ao + k * 6 + j, none⟩ = some u := by
          intro j u hu
          have hj : j < 6 := (List.getElem?_eq_some_iff.1 hu).1
          rw [Nat.add_assoc]
          exact hcell _ _ (by rw [flat_get AAct.cells 6 (fun _ => rfl) L k j x hx hj]; exact hu)
        have q0 := cell 0 _ rfl
        rw [Nat.add_zero] at q0
        have q1 := cell 1 _ rfl
        have q2 := cell 2 _ rfl
        have q3 := cell 3 _ rfl
        have q4 := cell 4 _ rfl
        have q5 := cell 5 _ rfl
        obtain ⟨⟨y0, y1⟩, ⟨y2, y3⟩, y4, y5⟩ := hact x (List.mem_of_getElem? hx)
        clear cell hcell
        obtain ⟨z, hz, hz2⟩ : ∃ z : Nat, x.kind % 2 = z ∧ z < 2 := ⟨(x.kind % 2).toNat, by omega, by omega⟩
        obtain ⟨ii, hii, hi16⟩ : ∃ z : Nat, x.i % 16 = z ∧ z < 16 := ⟨(x.i % 16).toNat, by omega, by omega⟩
        have bz : Go.bits .and .u8 x.kind 1 = (z : Int) := by rw [u8_and1 _ y0 y1]; exact hz
        have bi : Go.bits .and .i64 x.i 15 = (ii : Int) := by rw [i64_and15]; exact hii
        obtain ⟨l, zs, hI, hzl, hzb, hs2, hsN, hsY⟩ := st.sel ha10 hne hF2 z hz2 (ii : Int) x.x (by omega)
        have SC := fun (W : World) (h : IsAr W g bw bh 30 l) => set_calls h (pAt z a) (ii : Int) x.x (pAt_wf z a ha10).1 (pAt_wf z a ha10).2
        have wz : (wr.alloc (.cells #[.int .u8 x.kind, .int .i64 x.n, .int .i64 x.i, .int .u64 x.w, .int .u64 x.x, .slice x.A x.len x.cap] 37)).cell? ⟨gw, z, none⟩ = some (.slice (some ⟨(if z = 0 then b0 else b1), 0, none⟩) zs.length zs.length) := by
          rw [blk_cell (blk_old (blk_lt hwr) hwr), hzl]
          rcases (show z = 0 ∨ z = 1 by omega) with rfl | rfl <;> rfl
        have az : (wr.alloc (.cells #[.int .u8 x.kind, .int .i64 x.n, .int .i64 x.i, .int .u64 x.w, .int .u64 x.x, .slice x.A x.len x.cap] 37)).cell? ⟨w3.heap.size, z, none⟩ = some (.int .u64 (pAt z a)) := by
          rw [blk_cell (blk_old (blk_lt hgr) hgr)]
          rcases (show z = 0 ∨ z = 1 by omega) with rfl | rfl <;> rfl
        go_wp2_with fail
        go_quiet (fail)
        go_wp2_with fail
        have hI5 := (hI.sub ((Chg.refl [] wr).alloc (.cells #[.int .u8 x.kind, .int .i64 x.n, .int .i64 x.i, .int .u64 x.w, .int .u64 x.x, .slice x.A x.len x.cap] 37))).drewN nq
        have hc5 : Chg [] wr ((wr.alloc (.cells #[.int .u8 x.kind, .int .i64 x.n, .int .i64 x.i, .int .u64 x.w, .int .u64 x.x, .slice x.A x.len x.cap] 37)).drewN nq) := ((Chg.refl [] wr).alloc _).draw nq
        have qx : ((wr.alloc (.cells #[.int .u8 x.kind, .int .i64 x.n, .int .i64 x.i, .int .u64 x.w, .int .u64 x.x, .slice x.A x.len x.cap] 37)).drewN nq).heap[wr.heap.size]? = some (.cells #[.int .u8 x.kind, .int .i64 x.n, .int .i64 x.i, .int .u64 x.w, .int .u64 x.x, .slice x.A x.len x.cap] 37 (0, 0)) := blk_new rfl
        have hwW := hc5.at hwr (by simp)
        have haW := hc5.at hgr (by simp)
        generalize ((wr.alloc (.cells #[.int .u8 x.kind, .int .i64 x.n, .int .i64 x.i, .int .u64 x.w, .int .u64 x.x, .slice x.A x.len x.cap] 37)).drewN nq) = W5 at *
        clear wz az
        have cells : ∀ W, Chg [bw] W5 W → W.cell? ⟨gw, z, none⟩ = some (.slice (some ⟨(if z = 0 then b0 else b1), 0, none⟩) zs.length zs.length) ∧ W.cell? ⟨w3.heap.size, z, none⟩ = some (.int .u64 (pAt z a)) ∧ W.cell? ⟨wr.heap.size, 4, none⟩ = some (.int .u64 x.x) := by
          intro W hW
          have hbw := hal bw (by simp)
          refine ⟨?_, ?_, ?_⟩
          · rw [blk_cell (hW.at hwW (by simp; omega)), hzl]
            rcases (show z = 0 ∨ z = 1 by omega) with rfl | rfl <;> rfl
          · rw [blk_cell (hW.at haW (by simp; omega))]
            rcases (show z = 0 ∨ z = 1 by omega) with rfl | rfl <;> rfl
          · have := hcr.size
            rw [blk_cell (hW.at qx (by simp; omega))]; rfl
        obtain ⟨wz, az, xz⟩ := cells W5 (Chg.refl _ _)
        have HCE := Lib.hid cells
        have HB := Lib.hid hsN
        have HZB := Lib.hid hzb
        have nbk : (if z = 0 then b0 else b1) ∉ [g, bw, bh] := by split <;> exact hF2 _ (by simp)
        have mbk : (if z = 0 then b0 else b1) ∈ [g, bw, bh, b0, b1] := by split <;> simp
        have mbk2 := hbs _ mbk
        have HB2 := Lib.hid hsY
        have HO := Lib.hid hor
        have HCR := Lib.hid hcr
        clear cells hsN hsY hor hcr hwW haW qx hwr hgr hzb hzl ho4 hga hw4 hact
        generalize (if z = 0 then b0 else b1) = bk at *
        generalize pAt z a = pk at *
        have zi : (0 : Int) ≤ (z : Int) := Int.natCast_nonneg _
        have zi2 : (z : Int) < 2 := by omega
        by_cases hin : (ii : Int) < (zs.length : Int)
        · rw [if_pos hin] at hs2
          simp only [hs2] at SC
          have t1 : decide ((ii : Int) < (zs.length : Int)) = true := by simpa using hin
          go_region_held3 (fun w' => w'.cell? ⟨gw, z, none⟩ = some (.slice (some ⟨bk, 0, none⟩) zs.length zs.length) ∧ w'.cell? ⟨w3.heap.size, z, none⟩ = some (.int .u64 pk) ∧ w'.cell? ⟨wr.heap.size, 4, none⟩ = some (.int .u64 x.x))
            (first | go_keep | exact HCE.out _ ((Chg.refl [bw] W5).drew.same (by assumption)))
            ((go_at_call 12; refine (SC _ (by first | exact hI5 | exact hI5.drew | exact hI5.drewN _)).mono ?_; rintro e w6 ⟨rfl, hI6, hc6⟩))
          have hx6 := HCE.out w6 ((Chg.refl [bw] W5).drew.same hc6)
          obtain ⟨wz6, az6, xz6⟩ := hx6
          have c6 : Chg [bw] wr w6 := (hc5.mono (by simp)).same ((Chg.refl [bw] W5).drew.same hc6)
          have hb6 := c6.at HZB.out (fun hm => nbk (by simp at hm; simp [hm]))
          have hbc : w6.cell? ⟨bk, ii, none⟩ = some (.int .u64 (zs.getD ii 0)) := by
            rw [blk_cell hb6, nums_get, List.getD_eq_getElem?_getD]
            rw [List.getElem?_eq_getElem (by omega)]; rfl
          have hbf : w6.frozen? ⟨bk, ii, none⟩ = false := blk_frozen hb6 _
          have fin := HB2.out hin w6 hI6 c6
          rw [Int.toNat_natCast] at fin
          have cfin : Chg [g, bw, bh, b0, b1] w4 (w6.setCell ⟨bk, ii, none⟩ (.int .u64 x.x)) := (HCR.out.same (c6.mono (by simp))).set _ _ (.inl mbk)
          have FIN := Lib.hid fin
          have CFIN := Lib.hid cfin
          clear fin cfin hb6
          go_wp2_with fail
          go_region
          all_goals go_wp2_with fail
          all_goals
            go_roundw
            case rel => exact ⟨k + 1, by omega, by go_num, FIN.out.drew, CFIN.out.drew⟩
            case measure => simp [intOf]; omega
        · rw [if_neg hin] at hs2
          simp only [hs2] at SC
          have t1 : decide ((ii : Int) < (zs.length : Int)) = false := by simpa using hin
          go_region_held3 (fun w' => w'.cell? ⟨gw, z, none⟩ = some (.slice (some ⟨bk, 0, none⟩) zs.length zs.length) ∧ w'.cell? ⟨w3.heap.size, z, none⟩ = some (.int .u64 pk) ∧ w'.cell? ⟨wr.heap.size, 4, none⟩ = some (.int .u64 x.x))
            (first | go_keep | exact HCE.out _ ((Chg.refl [bw] W5).drew.same (by assumption)))
            ((go_at_call 12; refine (SC _ (by first | exact hI5 | exact hI5.drew | exact hI5.drewN _)).mono ?_; rintro e w6 ⟨rfl, hI6, hc6⟩))
          have hx6 := HCE.out w6 ((Chg.refl [bw] W5).drew.same hc6)
          obtain ⟨wz6, az6, xz6⟩ := hx6
          have c6 : Chg [bw] wr w6 := (hc5.mono (by simp)).same ((Chg.refl [bw] W5).drew.same hc6)
          have fin := HB.out (by simpa using hin) w6 hI6 c6
          have cfin : Chg [g, bw, bh, b0, b1] w4 w6 := HCR.out.same (c6.mono (by simp))
          have FIN := Lib.hid fin
          have CFIN := Lib.hid cfin
          clear fin cfin
          go_wp2_with fail
          all_goals
            go_roundw
            case rel => exact ⟨k + 1, by omega, by go_num, FIN.out, CFIN.out⟩
            case measure => simp [intOf]; omega
      · have HF := Lib.hid (hall4.trans hcr (fun x hx => .inr (by
          simp only [List.mem_cons, List.not_mem_nil, or_false] at hx
          have q1 := hal g (by simp)
          have := hall0
          rcases hx with rfl | rfl | rfl | rfl | rfl <;> omega))).below
        clear hall4 hcr hor ho4 hga hw4 st4
        go_wp2_with fail
        go_loop [110] (fun i => ∃ r : Nat, r ≤ 2 ∧ i = .int .i64 r) (fun i => 2 - (intOf i).toNat)
        case atStart => exact ⟨0, by decide, rfl⟩
        case round =>
          obtain ⟨r, hr, rfl⟩ := hrel
          by_cases hr2 : r < 2
          · obtain ⟨l, zs, hI, hzl, hzb, hget⟩ := st.sel2 ha10 r hr2
            have wz : wr.cell? ⟨gw, r, none⟩ = some (.slice (some ⟨(if r = 0 then b0 else b1), 0, none⟩) zs.length zs.length) := by
              rw [blk_cell hwr, hzl]
              rcases (show r = 0 ∨ r = 1 by omega) with rfl | rfl <;> rfl
            have az : wr.cell? ⟨w3.heap.size, r, none⟩ = some (.int .u64 (pAt r a)) := by
              rw [blk_cell hgr]
              rcases (show r = 0 ∨ r = 1 by omega) with rfl | rfl <;> rfl
            have hpw := pAt_wf r a ha10
            have hz10 : zs.length < 10 := by rw [hzl]; split <;> omega
            have HH := Lib.hid hget
            clear hzl hget hwr hgr
            generalize (if r = 0 then b0 else b1) = bk at *
            generalize pAt r a = pk at *
            go_wp2_with fail
            go_loop [117] (fun i => ∃ j : Nat, j ≤ zs.length ∧ i = .int .i64 j) (fun i => zs.length - (intOf i).toNat)
            case atStart => exact ⟨0, Nat.zero_le _, rfl⟩
            case round =>
              obtain ⟨j, hj, rfl⟩ := hrel
              by_cases hjl : j < zs.length
              · obtain ⟨u, hu⟩ : ∃ u, zs[j]? = some u := ⟨_, List.getElem?_eq_getElem hjl⟩
                have hbc : wr.cell? ⟨bk, j, none⟩ = some (.int .u64 u) := by rw [blk_cell hzb, nums_get, hu]; rfl
                have G := get_calls hI pk (j : Int) hpw.1 hpw.2
                rw [HH.out j u hu] at G
                clear hu
                go_wp2_with (go_at_call 13; refine G.mono ?_; rintro e w8 ⟨rfl, rfl⟩)
                go_round
                case rel => exact ⟨j + 1, by omega, by go_num⟩
                case measure => simp [intOf]; omega
              · go_wp2_with fail
                go_round
                case rel => exact ⟨r + 1, by omega, by go_num⟩
                case measure => simp [intOf]; omega
          · obtain ⟨l, hI, htl⟩ := st.used
            have U : ∀ n, Calls Try.prog 14 #[.pointer (some ⟨g, 0, none⟩)] (wr.drewN n) fun e w' => e = .returned (.int .i64 ((2 + a + b : Nat) : Int)) ∧ w' = wr.drewN n := by
              intro n
              have := used_calls (hI.drewN n)
              rw [htl] at this
              exact this.mono fun _ _ h => ⟨h.1, h.2.symm⟩
            have c0 : wr.cell? ⟨gw, 0, none⟩ = some (.slice (some ⟨b0, 0, none⟩) a a) := by rw [blk_cell hwr]; rfl
            have c1 : wr.cell? ⟨gw, 1, none⟩ = some (.slice (some ⟨b1, 0, none⟩) b b) := by rw [blk_cell hwr]; rfl
            clear htl
            go_wp2_with fail
            go_quiet ((go_at_call 14; exact Calls.quiet_of_same (U _)))
            go_wp2_with fail
            all_goals
              go_ret
              refine ⟨?_, below_draw HF.out _⟩
              simp <;> omega
end Go.Proofs.Ytlaipmakgicnfaa.Ar

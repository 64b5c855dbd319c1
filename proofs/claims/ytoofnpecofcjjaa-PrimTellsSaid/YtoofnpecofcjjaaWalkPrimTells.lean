/- The walk of PrimTells: for any word and any things the law answers true; its premises are what the row gives of its arguments. -/
import Derived.Test.YtoofnpecofcjjaaPrim3
import Derived.Test.YtoofnpecofcjjaaPActRead
namespace Go.Proofs.Ytoofnpecofcjjaa.Prim
open Go Go.RowKit Go.Proofs.Ytoofnpecofcjjaa.Heap Go.Proofs.Ytoofnpecofcjjaa.Word Go.Proofs.Ytoofnpecofcjjaa.Own Go.Proofs.Ytoofnpecofcjjaa.Ar Go.Proofs.Ytoofnpecofcjjaa.Pure
attribute [local go_sem] max2_int min2_int max_two min_two
theorem place_at {l : List Thing} {x : Int} (h : kindA l x ≠ 0) : x % 8 = 1 := by
  unfold kindA place at h
  by_cases h1 : x % 8 = 1 ∧ x / 8 < 1099511627776
  · exact h1.1
  · rw [if_neg h1] at h; exact absurd rfl h
/-- of what a word is asked at most one is so -/
theorem one_of (l : List Thing) (x : Int) : ∃ q : Nat, oneA l 15 x = (boolP (decide (0 = q)), 0) ∧ oneA l 16 x = (boolP (decide (1 = q)), 0) ∧ oneA l 11 x = (boolP (decide (2 = q)), 0) ∧
    oneA l 17 x = (boolP (decide (3 = q)), 0) ∧ oneA l 10 x = (boolP (decide (4 = q)), 0) := by
  have h0 : (toIntP x).2 = true → x % 8 = 0 := by
    intro h; unfold toIntP at h; split at h
    · assumption
    · simp at h
  have h1 : (toP 3 x).2 = true → x % 8 = 3 := fun h => ((toP_ok 3 x).1 h).2.1
  have h2 : pairA l x = true → x % 8 = 1 ∧ kindA l x = 1 := by
    intro h
    have hk : kindA l x = 1 := by simp [pairA] at h; exact h.1
    exact ⟨place_at (by rw [hk]; decide), hk⟩
  have h3 : (kindA l x == 2 || kindA l x == 5) = true → x % 8 = 1 ∧ kindA l x ≠ 1 := by
    intro h
    have hk : kindA l x = 2 ∨ kindA l x = 5 := by simpa using h
    exact ⟨place_at (l := l) (by omega), by omega⟩
  have h4 : (x == 2) = true → x % 8 = 2 := by intro h; simp at h; omega
  rw [show oneA l 15 x = (boolP (toIntP x).2, 0) from rfl, show oneA l 16 x = (boolP (toP 3 x).2, 0) from rfl, show oneA l 11 x = (boolP (pairA l x), 0) from rfl,
    show oneA l 17 x = (boolP (kindA l x == 2 || kindA l x == 5), 0) from rfl, show oneA l 10 x = (boolP (x == 2), 0) from rfl]
  generalize (toIntP x).2 = b0 at *
  generalize (toP 3 x).2 = b1 at *
  generalize pairA l x = b2 at *
  generalize (kindA l x == 2 || kindA l x == 5) = b3 at *
  generalize (x == 2) = b4 at *
  refine ⟨if b0 then 0 else if b1 then 1 else if b2 then 2 else if b3 then 3 else if b4 then 4 else 5, ?_⟩
  cases b0 <;> cases b1 <;> cases b2 <;> cases b3 <;> cases b4 <;> simp at h0 h1 h2 h3 h4 ⊢ <;> omega
theorem ops_at (l : List Thing) (x : Int) (q : Nat) (h : oneA l 15 x = (boolP (decide (0 = q)), 0) ∧ oneA l 16 x = (boolP (decide (1 = q)), 0) ∧ oneA l 11 x = (boolP (decide (2 = q)), 0) ∧
    oneA l 17 x = (boolP (decide (3 = q)), 0) ∧ oneA l 10 x = (boolP (decide (4 = q)), 0)) (r : Nat) (hr : r < 5) :
    ∃ o : Int, (#[Value.int .i64 15, .int .i64 16, .int .i64 11, .int .i64 17, .int .i64 10] : Array Value)[r]? = some (.int .i64 o) ∧ oneA l o x = (boolP (decide (r = q)), 0) := by
  obtain ⟨a, b, c, d, e⟩ := h
  rcases (show r = 0 ∨ r = 1 ∨ r = 2 ∨ r = 3 ∨ r = 4 by omega) with rfl | rfl | rfl | rfl | rfl
  · exact ⟨15, rfl, a⟩
  · exact ⟨16, rfl, b⟩
  · exact ⟨11, rfl, c⟩
  · exact ⟨17, rfl, d⟩
  · exact ⟨10, rfl, e⟩
set_option maxRecDepth 100000 in
set_option maxHeartbeats 1000000 in
theorem walkTells (x : Int) (A : Option Addr) (c : Nat) (al : List PAct) (w : World) (hx : (Lit.int .u64 x).wf = true)
    (hs : Src w 3 (.slice A al.length c) al.length (al.flatMap PAct.cells)) (hok : ∀ a ∈ al, a.Ok w) (hlc : al.length ≤ c) (hc : c ≤ maxLen) :
    Calls Try.prog 5 #[.int .u64 x, .slice A al.length c] w fun e w' => e = .returned (.bool true) ∧ Below w.heap.size w w' := by
  have ox : okW x := wf_u64 hx
  unfold maxLen at hc
  have t0 : tot [] = 0 := rfl
  clear hx
  go_enter Try.func5, Try.ntmps5
  go_wp2_with fail
  refine (shown_calls _).mono ?_
  rintro e w0 ⟨rfl, hc0⟩
  go_wp2_with fail
  refine (new_calls 200 _ (by decide) (by decide)).mono ?_
  rintro e w1 ⟨g, bw, bh, rfl, ha, hc1, l1, l2, l3⟩
  have hch : Chg [] w w1 := hc0.sub hc1
  have hs1 := hc0.size
  have hgs : ∀ b, b ∈ [g, bw, bh] → w.heap.size ≤ b := by
    intro b hb; simp only [List.mem_cons, List.not_mem_nil, or_false] at hb
    rcases hb with rfl | rfl | rfl <;> omega
  go_wp2_with fail
  go_loopw [32] (fun i wr => ∃ (k : Nat) (l : List Thing), k ≤ al.length ∧ i = .int .i64 k ∧ IsAr wr g bw bh 200 l ∧ Chg [g, bw, bh] w1 wr) (fun i _ => al.length - (intOf i).toNat)
  case atStart => exact ⟨0, [], Nat.zero_le _, rfl, ha, Chg.refl _ _⟩
  case round =>
    obtain ⟨k, l, hk, rfl, har, hcr⟩ := hrel
    have hall := hch.trans hcr (fun b hb => .inr (hgs b hb))
    by_cases hlt : k < al.length
    · obtain ⟨a, hak⟩ : ∃ a, al[k]? = some a := ⟨_, List.getElem?_eq_getElem hlt⟩
      obtain ⟨ab, ao, rfl, hab, hcell⟩ := (hs.grow hall).pl (by omega) (by decide)
      have q0 := PAct.cell hcell hak 0 _ rfl
      rw [Nat.add_zero] at q0
      have q1 := PAct.cell hcell hak 1 _ rfl
      have q2 := PAct.cell hcell hak 2 _ rfl
      have hoka := hok a (List.mem_of_getElem? hak)
      obtain ⟨q, hmin, m1, m2, _⟩ := min_nat a.lLen 4 4 rfl
      have hlc' : a.lLen ≤ a.lCap := by rcases hoka.l with ⟨_, h1, h2, _⟩ | ⟨_, _, h, _⟩ <;> omega
      have hlq : (a.l.take q).length = q := by
        rcases hoka.l with ⟨_, h1, h2, h3⟩ | ⟨_, _, h, _, h2, _⟩
        · simp [h3]; omega
        · simp; omega
      have hrd : ∀ W, Chg [] w W → Rd W [g, bw, bh] (.slice a.lA q a.lCap) (a.l.take q) := fun W h => by
        have := hoka.l.src q m1 a.lCap
        have := rd_old (w0 := w) (xs := a.l.take q) (A := a.lA) (c := a.lCap) (by rw [hlq]; exact this) h (by simp) [g, bw, bh] hgs
        rw [hlq] at this
        exact this
      have hrd2 : ∀ W, Chg [] wr W → Rd W [g, bw, bh] (.slice a.lA q a.lCap) (a.l.take q) := fun W h => hrd W (hall.same h)
      obtain ⟨O, hO⟩ : ∃ O, O = Obj.cells #[.int .i64 a.op, .slice a.lA a.lLen a.lCap, .int .u8 a.last] 34 := ⟨_, rfl⟩
      have hnew : (wr.alloc O).heap[wr.heap.size]? = some (.cells #[.int .i64 a.op, .slice a.lA a.lLen a.lCap, .int .u8 a.last] 34 (0, 0)) := by rw [hO]; exact blk_new rfl
      have n0 : (wr.alloc O).cell? ⟨wr.heap.size, 0, none⟩ = some (.int .i64 a.op) := by rw [blk_cell hnew]; rfl
      have n1 : (wr.alloc O).cell? ⟨wr.heap.size, 1, none⟩ = some (.slice a.lA a.lLen a.lCap) := by rw [blk_cell hnew]; rfl
      have HW := fun (W : World) (h1 : IsAr W g bw bh 200 l) (h2 : Chg [] wr W) => alloc_any h1 a.op _ _ (hrd2 W h2)
      have HC := Lib.hid hcr
      have hfar := new_far har
      have i1 : (0 : Int) ≤ (q : Int) := Int.natCast_nonneg _
      have i2 : (q : Int) ≤ (a.lCap : Int) := by omega
      have i3 : (q : Int) ≤ (a.lLen : Int) := by omega
      clear hcell hrd hrd2 hak hall hcr hoka hch ha hc0 hc1 hnew
      by_cases h20 : k < 20
      · have t1 : decide ((k : Int) < 20) = true := by simp; omega
        go_upto_region 9 with fail
        rw [← hO]
        clear hO
        go_region_held3 (fun w' => w'.cell? ⟨wr.heap.size, 0, none⟩ = some (.int .i64 a.op) ∧ w'.cell? ⟨wr.heap.size, 1, none⟩ = some (.slice a.lA a.lLen a.lCap))
          (first | go_keep | exact ⟨Chg.cell (by assumption) n0 hfar, Chg.cell (by assumption) n1 hfar⟩)
          ((go_at_call 12; refine (HW _ (by first | exact har.sub ((Chg.refl [] wr).alloc _) | exact (har.sub ((Chg.refl [] wr).alloc _)).drew | exact (har.sub ((Chg.refl [] wr).alloc _)).drewN _) (by first | exact ((Chg.refl [] wr).alloc _) | exact ((Chg.refl [] wr).alloc _).drew | exact ((Chg.refl [] wr).alloc _).draw _)).mono ?_; rintro e w3 ⟨rfl, ha3, hc3a⟩; have hc3 := ((Chg.refl [g, bw, bh] (wr.alloc O)).draw 1).same hc3a; clear hc3a))
        go_wp2_with fail
        go_roundw
        case rel => exact ⟨k + 1, _, by omega, by go_num, ha3, (HC.out.alloc _).same hc3⟩
        case measure => simp [intOf]; omega
      · have t1 : decide ((k : Int) < 20) = false := by simp; omega
        go_wp2_with fail
        go_roundw
        case rel => exact ⟨k + 1, l, by omega, by go_num, har.sub ((Chg.refl [] wr).alloc _), HC.out.alloc _⟩
        case measure => simp [intOf]; omega
    · go_wp2_with fail
      obtain ⟨q, hq⟩ := one_of l x
      have HQ := fun r hr => ops_at l x q hq r hr
      have hall2 := hall.alloc (.cells #[Value.int .i64 15, .int .i64 16, .int .i64 11, .int .i64 17, .int .i64 10] 3)
      have har2 := har.sub ((Chg.refl [] wr).alloc (.cells #[Value.int .i64 15, .int .i64 16, .int .i64 11, .int .i64 17, .int .i64 10] 3))
      have hbl : (wr.alloc (.cells #[Value.int .i64 15, .int .i64 16, .int .i64 11, .int .i64 17, .int .i64 10] 3)).heap[wr.heap.size]? = some (.cells #[Value.int .i64 15, .int .i64 16, .int .i64 11, .int .i64 17, .int .i64 10] 3 (0, 0)) := blk_new rfl
      generalize (wr.alloc (.cells #[Value.int .i64 15, .int .i64 16, .int .i64 11, .int .i64 17, .int .i64 10] 3)) = W2 at *
      generalize wr.heap.size = tb at *
      clear hq hs hok hch hcr hall har ha hc0 hc1 hlt hk
      go_loopw [53, 10] (fun i v wx => ∃ r : Nat, r ≤ 5 ∧ i = .int .i64 r ∧ v = .int .i64 (if q < r then 1 else 0) ∧ IsAr wx g bw bh 200 l ∧ Chg [] W2 wx) (fun i _ _ => 5 - (intOf i).toNat)
      case atStart => exact ⟨0, by decide, rfl, by simp, har2, Chg.refl _ _⟩
      case round =>
        obtain ⟨r, hr, rfl, rfl, hax, hcx⟩ := hrel
        by_cases hlt : r < 5
        · obtain ⟨o, ho, hA⟩ := HQ r hlt
          have hcell : wr.cell? ⟨tb, r, none⟩ = some (.int .i64 o) := by rw [blk_cell (hcx.at hbl (by simp)), ho]
          have HCX := Lib.hid hcx
          clear ho hcx
          by_cases hrq : r = q
          · have e1 : (if q < r then (1 : Int) else 0) = 0 := by rw [if_neg (by omega)]
            rw [show decide (r = q) = true by simpa using hrq] at hA
            rw [e1]
            have hrq' := Lib.hid hrq
            clear hrq e1
            go_wp2_with fail
            refine (do_ask hax o x ox _ hA).mono ?_
            rintro e w3 ⟨rfl, ha3, hc3⟩
            simp only [boolP, if_true]
            go_wp2_with fail
            go_roundw
            case rel => exact ⟨r + 1, by omega, by go_num, by have := hrq'.out; rw [if_pos (by omega)], ha3, HCX.out.same hc3⟩
            case measure => simp [intOf]; omega
          · rw [show decide (r = q) = false by simpa using hrq] at hA
            have e1 : (if q < r + 1 then (1 : Int) else 0) = if q < r then 1 else 0 := by
              by_cases h : q < r
              · rw [if_pos h, if_pos (by omega)]
              · rw [if_neg h, if_neg (by omega)]
            have e1 := Lib.hid e1
            generalize (if q < r then (1 : Int) else 0) = nn at *
            go_wp2_with fail
            refine (do_ask hax o x ox _ hA).mono ?_
            rintro e w3 ⟨rfl, ha3, hc3⟩
            simp only [boolP, Bool.false_eq_true, if_false]
            go_wp2_with fail
            go_roundw
            case rel => exact ⟨r + 1, by omega, by go_num, by rw [e1.out], ha3, HCX.out.same hc3⟩
            case measure => simp [intOf]; omega
        · obtain rfl : r = 5 := by omega
          have hn : (if q < 5 then (1 : Int) else 0) ≤ 1 := by split <;> decide
          generalize (if q < 5 then (1 : Int) else 0) = nn at *
          have t1 : decide (nn ≤ 1) = true := by simpa using hn
          clear hn
          cases hx10 : (x == 10)
          · go_wp2_with fail
            refine (do_ask hax 9 x ox (10, 0) (by rw [show oneA l 9 x = (boolP (x == 10), 0) from rfl, hx10]; rfl)).mono ?_
            rintro e w3 ⟨rfl, ha3, hc3⟩
            go_wp2_with fail
            refine (do_ask ha3 9 10 (by decide) (18, 0) rfl).mono ?_
            rintro e w4 ⟨rfl, ha4, hc4⟩
            go_wp2_with fail
            go_ret
            exact ⟨rfl, ((hall2.same hcx).same (hc3.same hc4)).below⟩
          · go_wp2_with fail
            refine (do_ask hax 9 x ox (18, 0) (by rw [show oneA l 9 x = (boolP (x == 10), 0) from rfl, hx10]; rfl)).mono ?_
            rintro e w3 ⟨rfl, ha3, hc3⟩
            go_wp2_with fail
            refine (do_ask ha3 9 18 (by decide) (10, 0) rfl).mono ?_
            rintro e w4 ⟨rfl, ha4, hc4⟩
            go_wp2_with fail
            go_ret
            exact ⟨rfl, ((hall2.same hcx).same (hc3.same hc4)).below⟩
end Go.Proofs.Ytoofnpecofcjjaa.Prim

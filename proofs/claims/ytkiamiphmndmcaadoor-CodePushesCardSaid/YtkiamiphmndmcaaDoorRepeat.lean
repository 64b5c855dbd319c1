/- The contract of slices.Repeat at one number; it states its conditions. -/
import Derived.Test.YtkiamiphmndmcaaDoorOwn
import Derived.Test.YtkiamiphmndmcaaDoorShelf
import Derived.Test.YtkiamiphmndmcaaDoorWWords
namespace Go.Proofs.YtkiamiphmndmcaaDoor.Lib2
open Go Go.RowKit Go.Proofs.YtkiamiphmndmcaaDoor.Heap Go.Proofs.YtkiamiphmndmcaaDoor.Own Go.Proofs.YtkiamiphmndmcaaDoorW.PrintWords
theorem infoI : (Tryd.prog.info? 3).map (fun i => (i.zero, i.size, i.bytes)) = some (some (.int .i64 0), 1, 8) := by kernel_rfl
theorem underIs : Tryd.prog.underlying 32 = some (.slice 3) := by kernel_rfl
theorem nums_set' (k : IntKind) (xs : List Int) (i : Nat) (v : Int) : (Heap.nums k xs).toArray.setIfInBounds i (.int k v) = (Heap.nums k (xs.set i v)).toArray := by
  simp [Heap.nums, List.map_set]
theorem made_one (z : Value) (n : Nat) (hz : z.cells = #[z]) : madeCells z.cells (n * 1) = Array.replicate n z := by
  rw [hz]; unfold madeCells
  apply Array.ext
  · simp
  · intro i h1 h2
    simp [Nat.mod_one]
theorem makeI (n : Nat) (hn : n ≤ 1000000) (W : World) : (Instr.makeSlice 32 (.int .i64 (n : Int)) (.int .i64 (n : Int))).run Tryd.prog W =
    .ok (.slice (some ⟨W.heap.size, 0, none⟩) n n) (W.alloc (.cells (Heap.nums .i64 (List.replicate n 0)).toArray 3)) := by
  obtain ⟨i, hi, hz, hs, hb⟩ := info_parts infoI
  have := run_make W 32 3 i _ underIs hi hz .i64 .i64 n n (by omega) (Int.le_refl _) (by rw [hb]; omega) (by omega)
  rw [this, hs, Int.toNat_natCast, made_one _ _ rfl]
  simp [Heap.nums]
theorem add_pl (b o j : Nat) : (⟨b, o, none⟩ : Addr).add j = ⟨b, o + j, none⟩ := by unfold Addr.add; split <;> simp_all
/-- copy of whole numbers into a row that is known whole -/
theorem copyI {W : World} {bw n m c : Nat} {A : Option Addr} {cur xs : List Int} (hW : W.heap[bw]? = some (.cells (Heap.nums .i64 cur).toArray 3 (0, 0))) (hm : m = xs.length) (d : Nat) (q : Nat) (hq : q = min m d) (e : Nat)
    (hn : n + q ≤ cur.length) (B : Option Addr) (hB : q ≠ 0 → B = some ⟨bw, n, none⟩)
    (hr : xs ≠ [] → ∃ b o, A = some ⟨b, o, none⟩ ∧ ∀ j x, xs[j]? = some x → W.cell? ⟨b, o + j, none⟩ = some (.int .i64 x)) (ty : TypeId) :
    ∃ W', (Builtin.copy_ #[32, 32] ty #[.slice B d e, .slice A m c]).run Tryd.prog W = .ok (.int .i64 q) W' ∧
      W'.heap[bw]? = some (.cells (Heap.nums .i64 (cur.take n ++ xs.take q ++ cur.drop (n + q))).toArray 3 (0, 0)) ∧ Chg [bw] W W' := by
  subst hm
  have hsz : (Tryd.prog.info? 3).map (·.size) = some 1 := by obtain ⟨i, hi, _, hs, _⟩ := info_parts infoI; rw [hi]; exact congrArg some hs
  have hq1 : q ≤ xs.length := by rw [hq]; exact Nat.min_le_left _ _
  have hq2 : q ≤ d := by rw [hq]; exact Nat.min_le_right _ _
  have hq3 : xs.length ≤ q ∨ d ≤ q := by rw [hq]; rcases Nat.le_total xs.length d with h | h; exact .inl (Nat.le_of_eq (Nat.min_eq_left h).symm); exact .inr (Nat.le_of_eq (Nat.min_eq_right h).symm)
  by_cases h0 : q = 0
  · subst h0
    have hq0 : xs.length = 0 ∨ d = 0 := by omega
    refine ⟨W, run_copy_none W _ _ ty _ B A d e xs.length c underIs hsz hq.symm, ?_, Chg.refl _ _⟩
    simpa using hW
  · have hxs : xs ≠ [] := by intro h; rw [h] at hq1; simp at hq1; omega
    rw [hB h0]
    obtain ⟨b, o, rfl, hc⟩ := hr hxs
    have hl2 : (Heap.nums .i64 (xs.take q)).length = q := by simp only [Heap.nums, List.length_map, List.length_take]; omega
    have := run_copy_row (P := Tryd.prog) W 32 32 ty 3 bw n d e ⟨b, o, none⟩ xs.length c (Heap.nums .i64 cur).toArray 3 (Heap.nums .i64 (xs.take q)) underIs hsz hW (by rw [show Nat.min xs.length d = q from hq.symm]; exact hl2)
      (by
        intro j v hv
        rw [add_pl]
        simp only [Heap.nums, List.getElem?_map, Option.map_eq_some_iff, List.getElem?_take] at hv
        obtain ⟨x, hx, rfl⟩ := hv
        split at hx
        · exact hc j x hx
        · cases hx) (by rw [hl2]; simp [Heap.nums]; omega) (by intro v hv; simp only [Heap.nums, List.mem_map] at hv; obtain ⟨x, _, rfl⟩ := hv; rfl)
    rw [hl2] at this
    refine ⟨_, this, ?_, ⟨rfl, rfl, rfl, by simp [World.setRow], fun k hk hn => setRow_other W bw k _ (by simpa using hn)⟩⟩
    rw [setRow_heap W bw _ _ _ _ hW]
    simp [Heap.nums]
set_option maxHeartbeats 1000000 in
theorem repeat_calls (b o c : Nat) (x : Int) (n : Nat) (w : World) (hx : w.cell? ⟨b, o, none⟩ = some (.int .i64 x)) (hn : n ≤ 1000000) :
    Calls Tryd.prog 18 #[.slice (some ⟨b, o, none⟩) 1 c, .int .i64 n] w fun e w' => ∃ g, e = .returned (.slice (some ⟨g, 0, none⟩) n n) ∧
      w'.heap[g]? = some (.cells (Heap.nums .i64 (List.replicate n x)).toArray 3 (0, 0)) ∧ w.heap.size ≤ g ∧ Chg [] w w' := by
  have hb := World.block_lt_of_cell? _ _ hx
  have t1 : decide ((n : Int) < 0) = false := by simp
  have MU := fun w => Tryd.bits_Mul 1 n (by decide) (by omega) w
  have m1 : ((1 * n / 18446744073709551616 : Nat) : Int) = 0 := by omega
  have m2 : ((1 * n % 18446744073709551616 : Nat) : Int) = n := by omega
  rw [m1, m2] at MU
  have e1 : IntKind.u64.wrap (n : Int) = n := by simp [IntKind.wrap, IntKind.bits, IntKind.signed]; omega
  have t2 : decide ((n : Int) > 9223372036854775807) = false := by simp; omega
  have t2' : decide (9223372036854775807 < n) = false := by simp; omega
  have mk := makeI n hn
  clear m1 m2
  go_enter Tryd.func18, Tryd.ntmps18
  go_wp2_with fail
  refine (MU _).mono ?_
  rintro e w1 ⟨rfl, rfl⟩
  go_upto_region 7 with fail
  have B0 : (w1.alloc (.cells (Heap.nums .i64 (List.replicate n 0)).toArray 3)).heap[w1.heap.size]? = some (.cells (Heap.nums .i64 (List.replicate n 0)).toArray 3 (0, 0)) := blk_new rfl
  have C0 : Chg [] w1 (w1.alloc (.cells (Heap.nums .i64 (List.replicate n 0)).toArray 3)) := (Chg.refl _ _).alloc _
  obtain ⟨W2, hrun, g2, ch2⟩ := copyI (xs := [x]) (n := 0) (c := c) (A := some ⟨b, o, none⟩) B0 (m := 1) rfl n (min 1 n) rfl n (by simp; omega) (some ⟨w1.heap.size, 0, none⟩) (fun _ => rfl)
    (fun _ => ⟨b, o, rfl, fun j y hj => by cases j with
      | zero => simp at hj; subst hj; exact C0.cell hx (by simp)
      | succ j => simp at hj⟩) 3
  have K2 : Chg [] w1 W2 := (C0.trans ch2 (fun b hb => by simp at hb; subst hb; exact .inr (Nat.le_refl _)))
  have hgs : w1.heap.size ≤ w1.heap.size := Nat.le_refl _
  have hs2 := ch2.size
  rw [show (w1.alloc (.cells (Heap.nums .i64 (List.replicate n 0)).toArray 3)).heap.size = w1.heap.size + 1 by simp] at hs2
  have CH2 := Lib.hid ch2
  have KK2 := Lib.hid K2
  have GG2 := Lib.hid g2
  have HB := Lib.hid hb
  clear ch2 K2 g2 C0 B0 hb mk MU
  generalize hw1 : w1.alloc (.cells (Heap.nums .i64 (List.replicate n 0)).toArray 3) = W1 at *
  clear hw1
  have hgw : Hid (w1.heap.size ≤ w1.heap.size) := Lib.hid (Nat.le_refl _)
  generalize hg : w1.heap.size = g at *
  clear hgs
  obtain ⟨q, hq⟩ : ∃ q, q = min 1 n := ⟨_, rfl⟩
  have hq1 : q ≤ n ∧ (q = 0 → n = 0) := by omega
  rw [← hq] at hrun GG2
  have HQ := Lib.hid hq
  clear hq
  go_wp2_with fail
  go_loopw [8] (fun i wr => ∃ m : Nat, i = .int .i64 m ∧ m ≤ n ∧ Hid (m = 0 → n = 0) ∧ ∃ cur : List Int, Hid (cur.length = n) ∧ Hid (cur.take m = List.replicate m x) ∧ Hid (wr.heap[g]? = some (.cells (Heap.nums .i64 cur).toArray 3 (0, 0))) ∧ Chg [g] W2 wr) (fun i _ => n - (intOf i).toNat)
  case atStart =>
    refine ⟨q, rfl, hq1.1, Lib.hid hq1.2, _, Lib.hid ?_, Lib.hid ?_, Lib.hid GG2.out, Chg.refl _ _⟩
    · have := HQ.out; simp; omega
    · have := HQ.out
      rcases (show q = 0 ∨ q = 1 by omega) with h | h
      · simp [h]
      · simp [h]
  case round =>
    obtain ⟨m, rfl, hm, HM0, cur, HL, HT, HB2, hcr⟩ := hrel
    by_cases hlt : m < n
    · have hm0 : 0 < m := by have := HM0.out; omega
      have hl := HL.out
      have hd : Chg [] wr wr.drew := (Chg.refl _ _).drew
      have hcell : ∀ j y, (List.replicate m x)[j]? = some y → wr.drew.cell? ⟨g, 0 + j, none⟩ = some (.int .i64 y) := fun j y hj => by
        have hjm : j < m := by have := (List.getElem?_eq_some_iff.1 hj).1; simpa using this
        have hy : cur[j]? = some y := by rw [← HT.out, List.getElem?_take, if_pos hjm] at hj; exact hj
        rw [Nat.zero_add]
        show wr.cell? ⟨g, j, none⟩ = _
        rw [Heap.blk_cell HB2.out]; simp [Heap.nums, hy]
      obtain ⟨p, hp⟩ : ∃ p, p = min m (n - m) := ⟨_, rfl⟩
      have hp1 : p ≤ m ∧ p ≤ n - m ∧ 0 < p := by omega
      obtain ⟨W3, hrun3, g3, ch3⟩ := copyI (W := wr.drew) (xs := List.replicate m x) (n := m) (c := n) (A := some ⟨g, 0, none⟩) HB2.out (m := m) (by simp) (n - m) p hp (n - m) (by omega) (if n = m then some ⟨g, 0, none⟩ else some ⟨g, m, none⟩) (fun _ => if_neg (by omega))
        (fun _ => ⟨g, 0, rfl, hcell⟩) 3
      have b1 : (0 : Int) ≤ (m : Int) := Int.natCast_nonneg _
      have b2 : (m : Int) ≤ (n : Int) := by omega
      have b3 : IntKind.i64.wrap ((m : Int) + (p : Int)) = ((m + p : Nat) : Int) := by rw [IntKind.wrap_i64]; omega
      have HG3 := Lib.hid g3
      have HC3 := Lib.hid (hcr.same (hd.mono (by simp : ∀ k, k ∈ ([] : List Nat) → k ∈ [g]) |>.same ch3))
      have HP := Lib.hid hp1
      clear hcell g3 ch3 hd hcr hl hp hp1
      go_wp2_with fail
      go_region_law (fail)
      all_goals go_wp2_with fail
      all_goals
        go_roundw
        case rel =>
          refine ⟨m + p, by first | go_num | rw [b3], by have := HP.out; omega, Lib.hid (by have := HP.out; omega), _, Lib.hid ?_, Lib.hid ?_, HG3, HC3.out⟩
          · have := HP.out; have := HL.out; simp; omega
          · have := HP.out; have := HL.out
            have h1 := HT.out
            rw [h1, List.take_replicate, Nat.min_eq_left (by omega : p ≤ m), List.replicate_append_replicate, List.take_left' (by simp)]
        case measure => have := HP.out; simp [intOf]; omega
    · obtain rfl : m = n := by omega
      have HC := Lib.hid hcr
      clear hcr
      go_wp2_with fail
      go_ret
      refine ⟨g, rfl, ?_, ?_, ?_⟩
      · have h1 := HT.out
        rw [List.take_of_length_le (by have := HL.out; omega)] at h1
        rw [← h1]; exact HB2.out
      · have := hs2; omega
      · exact (KK2.out.trans HC.out (fun b hb => by simp at hb; subst hb; exact .inr (by omega)))
end Go.Proofs.YtkiamiphmndmcaaDoor.Lib2

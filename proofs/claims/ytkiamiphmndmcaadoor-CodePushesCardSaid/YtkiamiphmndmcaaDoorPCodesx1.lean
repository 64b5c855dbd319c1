-- Written by xprint.py (a program of the prover's) over the kit's printer.
import Derived.Test.YtkiamiphmndmcaaDoorPCodesx0
namespace Go.Proofs.YtkiamiphmndmcaaDoor.PCodes
open Go.RowKit Go.Proofs.YtkiamiphmndmcaaDoorW.PrintWords Go.Proofs.YtkiamiphmndmcaaDoorW.PrintLast Go.Proofs.YtkiamiphmndmcaaDoorW.PrintMore
attribute [local go_sem] max2_int min2_int max_two min_two max_three min_three max_four min_four   -- for this text's walks alone
set_option linter.unusedVariables false
set_option linter.unusedSimpArgs false

/-! ### slices_Repeat_int_int: function 18 -/
def slices_Repeat_int_int.f (l0 : List Int) (a1 : Int) : Option (List Int) := if l0.length = 1 ∧ 0 ≤ a1 ∧ a1 ≤ 1000000 then some (List.replicate a1.toNat (l0.getD 0 0)) else none
theorem reps_ints {w : World} {base : Nat} {ok : Nat → Prop} (k : IntKind) (xs : List Int) : Reps ((Kd.int k).M w base ok) (Kd.int k).sz xs (xs.map fun x => Value.int k x) :=
  ⟨by simp [Kd.int, Kd.scalar], fun j p hj => by
    have h1 : (Kd.int k).sz = 1 := rfl
    simp only [h1, Nat.mul_one]
    have h2 : (xs.map fun x => Value.int k x)[j]? = some (.int k p) := by simp [hj]
    have h3 := (List.getElem?_eq_some_iff.1 h2).1
    show _ = _
    rw [List.drop_eq_getElem_cons h3, List.take_succ_cons, List.take_zero, (List.getElem?_eq_some_iff.1 h2).2]⟩
/-- a block that is known whole, as a row of the call's own -/
theorem R_of_block {W : World} {g base c : Nat} {k : IntKind} {e : Nat} {xs : List Int} (h : W.heap[g]? = some (.cells (xs.map fun x => Value.int k x).toArray e (0, 0))) (hb : base ≤ g) (hc : c = xs.length) (hm : xs.length ≤ 1000000) :
    Kd.R (Kd.int k) e W base (fun _ => True) (.slice (some ⟨g, 0, none⟩) xs.length c) xs := by
  subst hc
  refine ⟨fun _ _ => trivial, _, ⟨by simp [Kd.int, Kd.scalar], .inr ⟨g, xs.length, _, rfl, hb, h, Nat.le_refl _, by simp only [maxLen]; omega, by simp [Kd.int, Kd.scalar], ?_⟩⟩, reps_ints k xs⟩
  simp [Kd.int, Kd.scalar, List.take_of_length_le]
theorem slices_Repeat_int_int.calls (A0 : Option Addr) (c0 : Nat) (l0 : List Int) (a1 : Int) (r : List Int) (w : World) (hr0 : Kd.C (Kd.int .i64) w A0 l0.length l0) (hc0 : l0.length ≤ c0) (h : slices_Repeat_int_int.f l0 a1 = some r) :
    Calls Tryd.prog 18 #[.slice A0 l0.length c0, .int .i64 a1] w fun e w' => ∃ v0_ : Value, e = .returned (v0_) ∧ Kd.R (Kd.int .i64) 3 w' w.heap.size (fun _ => True) v0_ r ∧ Below w.heap.size w w' := by
  unfold slices_Repeat_int_int.f at h
  split at h
  · rename_i hc
    obtain ⟨h1, h2, h3⟩ := hc
    cases h
    obtain ⟨ad, rfl, hcell⟩ := Kd.at_int hr0 0 (Int.le_refl _) (by omega)
    obtain ⟨b, o, s⟩ := ad
    have hs : s = none := by
      have := World.cell?_spot hcell
      simpa [Addr.add] using this
    subst hs
    simp only [Int.toNat_zero, Lib2.add_pl, Nat.add_zero] at hcell
    obtain ⟨n, rfl⟩ : ∃ n : Nat, a1 = n := ⟨a1.toNat, by omega⟩
    rw [h1]
    refine (Lib2.repeat_calls b o c0 _ n w hcell (by omega)).mono ?_
    rintro e w1 ⟨g, rfl, hg, hle, hch⟩
    refine ⟨_, rfl, ?_, hch.below⟩
    have h4 : (List.replicate (n : Int).toNat (l0.getD 0 0)).length = n := by simp
    have := R_of_block (k := .i64) (xs := List.replicate (n : Int).toNat (l0.getD 0 0)) (by simpa [Heap.nums, rd] using hg) hle h4.symm (by rw [h4]; omega)
    rw [h4] at this
    exact this
  · cases h

/-! ### code_takes: function 19 -/
def code_takes.f (a0_0 : Int) (a0_1 : Int) (a0_2 : Int) (a0_3 : Int) : Option (Int) := if a0_0 = 11 then (some a0_2) else (if a0_0 = 12 then (some a0_1) else (if a0_0 = 13 then (some a0_1) else (some 0)))
set_option maxHeartbeats 8000000 in
set_option maxRecDepth 100000 in
theorem code_takes.calls (a0_0 : Int) (a0_1 : Int) (a0_2 : Int) (a0_3 : Int) (r : Int) (w : World) (h : code_takes.f a0_0 a0_1 a0_2 a0_3 = some r) :
    Calls Tryd.prog 19 #[.agg #[.int .u8 a0_0, .int .i64 a0_1, .int .i64 a0_2, .int .u64 a0_3]] w fun e w' => e = .returned (.int .i64 r) ∧ Below w.heap.size w w' := by
  have hu38 := Tryd.underlying38
  have HB := Aside0.mk (Below.refl w.heap.size w)
  have H : (if a0_0 = 11 then (some a0_2) else (if a0_0 = 12 then (some a0_1) else (if a0_0 = 13 then (some a0_1) else (some 0)))) = some r := h
  clear h
  by_cases c2 : a0_0 = 11
  · rw [if_pos c2] at H
    have c2b0 : (a0_0 == 11) = true := beq_iff_eq.mpr c2
    have c2b1 : (a0_0 != 11) = false := bne_eq_false_iff_eq.mpr c2
    clear c2
    obtain rfl := Option.some.inj H
    go_enter Tryd.func19, Tryd.ntmps19
    go_wp2_with (first | ((with_reducible refine gate_dst (N := 1) rfl ?_); refine box_event ?hg (N := 1) ?hd (cs := #[.int .u8 a0_0, .int .i64 a0_1, .int .i64 a0_2, .int .u64 a0_3]) (t := 38) ?hr ?_; (case hd => rfl); (case hg => rfl); (case hr => first | (go_simp; done) | (go_simp; rfl)); intro gb101 hg w3 hbox hb; have n0_ := Aside0.mk (below_step (by repeat (first | (with_reducible first | exact HB.out | apply below_alloc | apply pw_below_drewN | apply below_drew1) | exact HB.out)) hb); have n1_ := Aside0.mk (hbox); have n2_ := Aside0.mk ((by rw [hg]; exact (below_size (by repeat (first | (with_reducible first | exact HB.out | apply below_alloc | apply pw_below_drewN | apply below_drew1) | exact HB.out))) : w.heap.size ≤ gb101)); have n3_ := Aside0.mk ((by rw [hg]; exact (below_size (by repeat (first | (with_reducible first | exact HB.out | apply below_alloc | apply pw_below_drewN | apply below_drew1) | exact HB.out))) : w.heap.size ≤ gb101)); clear HB; have HB := n0_; have BK101 := n1_; have GW101 := n2_; have GE101 := n3_; clear n0_ n1_ n2_ n3_; clear hb hbox hg; have hcz4_0 : w3.cell? ⟨gb101, 0, none⟩ = some (.int .u8 a0_0) := (blk_cell BK101.out 0).trans rfl; have hcz4_1 : w3.cell? ⟨gb101, 1, none⟩ = some (.int .i64 a0_1) := (blk_cell BK101.out 1).trans rfl; have hcz4_2 : w3.cell? ⟨gb101, 2, none⟩ = some (.int .i64 a0_2) := (blk_cell BK101.out 2).trans rfl; have hcz4_3 : w3.cell? ⟨gb101, 3, none⟩ = some (.int .u64 a0_3) := (blk_cell BK101.out 3).trans rfl; have hfz4_0 := blk_frozen BK101.out 0; have hfz4_1 := blk_frozen BK101.out 1; have hfz4_2 := blk_frozen BK101.out 2; have hfz4_3 := blk_frozen BK101.out 3))
    go_ret
    exact ⟨by first | rfl | (simp [errW_none, errW_some] <;> rfl) | (simp [*, errW_none, errW_some] <;> rfl), by repeat (first | (with_reducible first | exact HB.out | apply below_alloc | apply pw_below_drewN | apply below_drew1 | refine below_set ?_ GE101.out) | exact HB.out)⟩
  · rw [if_neg c2] at H
    have c2b0 : (a0_0 == 11) = false := beq_eq_false_iff_ne.mpr c2
    have c2b1 : (a0_0 != 11) = true := bne_iff_ne.mpr c2
    by_cases c5 : a0_0 = 12
    · rw [if_pos c5] at H
      have c5b0 : (a0_0 == 12) = true := beq_iff_eq.mpr c5
      have c5b1 : (a0_0 != 12) = false := bne_eq_false_iff_eq.mpr c5
      clear c5
      obtain rfl := Option.some.inj H
      go_enter Tryd.func19, Tryd.ntmps19
      go_wp2_with (first | ((with_reducible refine gate_dst (N := 1) rfl ?_); refine box_event ?hg (N := 1) ?hd (cs := #[.int .u8 a0_0, .int .i64 a0_1, .int .i64 a0_2, .int .u64 a0_3]) (t := 38) ?hr ?_; (case hd => rfl); (case hg => rfl); (case hr => first | (go_simp; done) | (go_simp; rfl)); intro gb101 hg w6 hbox hb; have n0_ := Aside0.mk (below_step (by repeat (first | (with_reducible first | exact HB.out | apply below_alloc | apply pw_below_drewN | apply below_drew1) | exact HB.out)) hb); have n1_ := Aside0.mk (hbox); have n2_ := Aside0.mk ((by rw [hg]; exact (below_size (by repeat (first | (with_reducible first | exact HB.out | apply below_alloc | apply pw_below_drewN | apply below_drew1) | exact HB.out))) : w.heap.size ≤ gb101)); have n3_ := Aside0.mk ((by rw [hg]; exact (below_size (by repeat (first | (with_reducible first | exact HB.out | apply below_alloc | apply pw_below_drewN | apply below_drew1) | exact HB.out))) : w.heap.size ≤ gb101)); clear HB; have HB := n0_; have BK101 := n1_; have GW101 := n2_; have GE101 := n3_; clear n0_ n1_ n2_ n3_; clear hb hbox hg; have hcz7_0 : w6.cell? ⟨gb101, 0, none⟩ = some (.int .u8 a0_0) := (blk_cell BK101.out 0).trans rfl; have hcz7_1 : w6.cell? ⟨gb101, 1, none⟩ = some (.int .i64 a0_1) := (blk_cell BK101.out 1).trans rfl; have hcz7_2 : w6.cell? ⟨gb101, 2, none⟩ = some (.int .i64 a0_2) := (blk_cell BK101.out 2).trans rfl; have hcz7_3 : w6.cell? ⟨gb101, 3, none⟩ = some (.int .u64 a0_3) := (blk_cell BK101.out 3).trans rfl; have hfz7_0 := blk_frozen BK101.out 0; have hfz7_1 := blk_frozen BK101.out 1; have hfz7_2 := blk_frozen BK101.out 2; have hfz7_3 := blk_frozen BK101.out 3))
      go_ret
      exact ⟨by first | rfl | (simp [errW_none, errW_some] <;> rfl) | (simp [*, errW_none, errW_some] <;> rfl), by repeat (first | (with_reducible first | exact HB.out | apply below_alloc | apply pw_below_drewN | apply below_drew1 | refine below_set ?_ GE101.out) | exact HB.out)⟩
    · rw [if_neg c5] at H
      have c5b0 : (a0_0 == 12) = false := beq_eq_false_iff_ne.mpr c5
      have c5b1 : (a0_0 != 12) = true := bne_iff_ne.mpr c5
      by_cases c8 : a0_0 = 13
      · rw [if_pos c8] at H
        have c8b0 : (a0_0 == 13) = true := beq_iff_eq.mpr c8
        have c8b1 : (a0_0 != 13) = false := bne_eq_false_iff_eq.mpr c8
        clear c8
        obtain rfl := Option.some.inj H
        go_enter Tryd.func19, Tryd.ntmps19
        go_wp2_with (first | ((with_reducible refine gate_dst (N := 1) rfl ?_); refine box_event ?hg (N := 1) ?hd (cs := #[.int .u8 a0_0, .int .i64 a0_1, .int .i64 a0_2, .int .u64 a0_3]) (t := 38) ?hr ?_; (case hd => rfl); (case hg => rfl); (case hr => first | (go_simp; done) | (go_simp; rfl)); intro gb101 hg w9 hbox hb; have n0_ := Aside0.mk (below_step (by repeat (first | (with_reducible first | exact HB.out | apply below_alloc | apply pw_below_drewN | apply below_drew1) | exact HB.out)) hb); have n1_ := Aside0.mk (hbox); have n2_ := Aside0.mk ((by rw [hg]; exact (below_size (by repeat (first | (with_reducible first | exact HB.out | apply below_alloc | apply pw_below_drewN | apply below_drew1) | exact HB.out))) : w.heap.size ≤ gb101)); have n3_ := Aside0.mk ((by rw [hg]; exact (below_size (by repeat (first | (with_reducible first | exact HB.out | apply below_alloc | apply pw_below_drewN | apply below_drew1) | exact HB.out))) : w.heap.size ≤ gb101)); clear HB; have HB := n0_; have BK101 := n1_; have GW101 := n2_; have GE101 := n3_; clear n0_ n1_ n2_ n3_; clear hb hbox hg; have hcz10_0 : w9.cell? ⟨gb101, 0, none⟩ = some (.int .u8 a0_0) := (blk_cell BK101.out 0).trans rfl; have hcz10_1 : w9.cell? ⟨gb101, 1, none⟩ = some (.int .i64 a0_1) := (blk_cell BK101.out 1).trans rfl; have hcz10_2 : w9.cell? ⟨gb101, 2, none⟩ = some (.int .i64 a0_2) := (blk_cell BK101.out 2).trans rfl; have hcz10_3 : w9.cell? ⟨gb101, 3, none⟩ = some (.int .u64 a0_3) := (blk_cell BK101.out 3).trans rfl; have hfz10_0 := blk_frozen BK101.out 0; have hfz10_1 := blk_frozen BK101.out 1; have hfz10_2 := blk_frozen BK101.out 2; have hfz10_3 := blk_frozen BK101.out 3))
        go_ret
        exact ⟨by first | rfl | (simp [errW_none, errW_some] <;> rfl) | (simp [*, errW_none, errW_some] <;> rfl), by repeat (first | (with_reducible first | exact HB.out | apply below_alloc | apply pw_below_drewN | apply below_drew1 | refine below_set ?_ GE101.out) | exact HB.out)⟩
      · rw [if_neg c8] at H
        have c8b0 : (a0_0 == 13) = false := beq_eq_false_iff_ne.mpr c8
        have c8b1 : (a0_0 != 13) = true := bne_iff_ne.mpr c8
        obtain rfl := Option.some.inj H
        go_enter Tryd.func19, Tryd.ntmps19
        go_wp2_with (first | ((with_reducible refine gate_dst (N := 1) rfl ?_); refine box_event ?hg (N := 1) ?hd (cs := #[.int .u8 a0_0, .int .i64 a0_1, .int .i64 a0_2, .int .u64 a0_3]) (t := 38) ?hr ?_; (case hd => rfl); (case hg => rfl); (case hr => first | (go_simp; done) | (go_simp; rfl)); intro gb101 hg w11 hbox hb; have n0_ := Aside0.mk (below_step (by repeat (first | (with_reducible first | exact HB.out | apply below_alloc | apply pw_below_drewN | apply below_drew1) | exact HB.out)) hb); have n1_ := Aside0.mk (hbox); have n2_ := Aside0.mk ((by rw [hg]; exact (below_size (by repeat (first | (with_reducible first | exact HB.out | apply below_alloc | apply pw_below_drewN | apply below_drew1) | exact HB.out))) : w.heap.size ≤ gb101)); have n3_ := Aside0.mk ((by rw [hg]; exact (below_size (by repeat (first | (with_reducible first | exact HB.out | apply below_alloc | apply pw_below_drewN | apply below_drew1) | exact HB.out))) : w.heap.size ≤ gb101)); clear HB; have HB := n0_; have BK101 := n1_; have GW101 := n2_; have GE101 := n3_; clear n0_ n1_ n2_ n3_; clear hb hbox hg; have hcz12_0 : w11.cell? ⟨gb101, 0, none⟩ = some (.int .u8 a0_0) := (blk_cell BK101.out 0).trans rfl; have hcz12_1 : w11.cell? ⟨gb101, 1, none⟩ = some (.int .i64 a0_1) := (blk_cell BK101.out 1).trans rfl; have hcz12_2 : w11.cell? ⟨gb101, 2, none⟩ = some (.int .i64 a0_2) := (blk_cell BK101.out 2).trans rfl; have hcz12_3 : w11.cell? ⟨gb101, 3, none⟩ = some (.int .u64 a0_3) := (blk_cell BK101.out 3).trans rfl; have hfz12_0 := blk_frozen BK101.out 0; have hfz12_1 := blk_frozen BK101.out 1; have hfz12_2 := blk_frozen BK101.out 2; have hfz12_3 := blk_frozen BK101.out 3))
        go_ret
        exact ⟨by first | rfl | (simp [errW_none, errW_some] <;> rfl) | (simp [*, errW_none, errW_some] <;> rfl), by repeat (first | (with_reducible first | exact HB.out | apply below_alloc | apply pw_below_drewN | apply below_drew1 | refine below_set ?_ GE101.out) | exact HB.out)⟩

/-! ### code_follows: function 20 -/
def code_follows.j0 : Nat → Int → Int → Bool → Int → Int → Int → Int → Option (List Int)
  | 0, _, _, _, _, _, _, _ => none
  | k + 1, x1, x6, x7, x103000, x103001, x103002, x103003 => if x7 = true then (some ([] : List Int)) else (if x6 = 8 then (some (([x103001] : List Int))) else (if x6 = 9 then (some (([wrap64 (x1 + 1), x103001] : List Int))) else (some (([wrap64 (x1 + 1)] : List Int)))))
def code_follows.f (k : Nat) (a0_0 : Int) (a0_1 : Int) (a0_2 : Int) (a0_3 : Int) (a1 : Int) : Option (List Int) := if a0_0 = 13 then (code_follows.j0 k a1 a0_0 (a0_0 == 13) a0_0 a0_1 a0_2 a0_3) else (if a0_0 = 15 then (code_follows.j0 k a1 a0_0 (a0_0 == 15) a0_0 a0_1 a0_2 a0_3) else (code_follows.j0 k a1 a0_0 (a0_0 == 16) a0_0 a0_1 a0_2 a0_3))
theorem code_follows.mono_l : ∀ k, (∀ y0 y1 y2 y3 y4 y5 y6, LeO (code_follows.j0 k y0 y1 y2 y3 y4 y5 y6) (code_follows.j0 (k + 1) y0 y1 y2 y3 y4 y5 y6))
  | 0 => fun _ _ _ _ _ _ _ r h => by simp [code_follows.j0] at h
  | k + 1 => by
    have ih0 := code_follows.mono_l k
    · intro y0 y1 y2 y3 y4 y5 y6
      unfold code_follows.j0
      repeat' first
      | (with_reducible exact ih0 _ _ _ _ _ _ _)
      | (with_reducible exact LeO.refl _)
      | (with_reducible exact LeO.none _)
      | (with_reducible refine LeO.ite ?_ ?_)
      | (with_reducible refine LeO.bind ?_ (fun _ => ?_))
      | exact ih0 _ _ _ _ _ _ _
      | exact LeO.none _
      | refine LeO.ite ?_ ?_
      | refine LeO.bind ?_ (fun _ => ?_)
theorem code_follows.mono : ∀ a0 a1 a2 a3 a4 k, LeO (code_follows.f k a0 a1 a2 a3 a4) (code_follows.f (k + 1) a0 a1 a2 a3 a4) := by
  intro a0 a1 a2 a3 a4 k
  have ih0 := code_follows.mono_l k
  unfold code_follows.f
  repeat' first
      | (with_reducible exact ih0 _ _ _ _ _ _ _)
      | (with_reducible exact LeO.refl _)
      | (with_reducible exact LeO.none _)
      | (with_reducible refine LeO.ite ?_ ?_)
      | (with_reducible refine LeO.bind ?_ (fun _ => ?_))
      | exact ih0 _ _ _ _ _ _ _
      | exact LeO.none _
      | refine LeO.ite ?_ ?_
      | refine LeO.bind ?_ (fun _ => ?_)
set_option maxHeartbeats 8000000 in
set_option maxRecDepth 100000 in
theorem code_follows.calls (k : Nat) (a0_0 : Int) (a0_1 : Int) (a0_2 : Int) (a0_3 : Int) (a1 : Int) (r : List Int) (w : World) (h : code_follows.f k a0_0 a0_1 a0_2 a0_3 a1 = some r) :
    Calls Tryd.prog 20 #[.agg #[.int .u8 a0_0, .int .i64 a0_1, .int .i64 a0_2, .int .u64 a0_3], .int .i64 a1] w fun e w' => ∃ v0_ : Value, e = .returned (v0_) ∧ Kd.R (Kd.int .i64) 3 w' w.heap.size (fun _ => True) v0_ r ∧ Below w.heap.size w w' := by
  have hu38 := Tryd.underlying38
  have HB := Aside0.mk (Below.refl w.heap.size w)
  have H : (if a0_0 = 13 then (code_follows.j0 k a1 a0_0 (a0_0 == 13) a0_0 a0_1 a0_2 a0_3) else (if a0_0 = 15 then (code_follows.j0 k a1 a0_0 (a0_0 == 15) a0_0 a0_1 a0_2 a0_3) else (code_follows.j0 k a1 a0_0 (a0_0 == 16) a0_0 a0_1 a0_2 a0_3))) = some r := h
  clear h
  have HC3 := Aside0.mk H
  clear H
  go_enter Tryd.func20, Tryd.ntmps20
  go_upto_if 7 with (first | ((with_reducible refine gate_dst (N := 2) rfl ?_); refine box_event ?hg (N := 2) ?hd (cs := #[.int .u8 a0_0, .int .i64 a0_1, .int .i64 a0_2, .int .u64 a0_3]) (t := 38) ?hr ?_; (case hd => rfl); (case hg => rfl); (case hr => first | (go_simp; done) | (go_simp; rfl)); intro gb102 hg w4 hbox hb; have n0_ := Aside0.mk (below_step (by repeat (first | (with_reducible first | exact HB.out | apply below_alloc | apply pw_below_drewN | apply below_drew1) | exact HB.out)) hb); have n1_ := Aside0.mk (hbox); have n2_ := Aside0.mk ((by rw [hg]; exact (below_size (by repeat (first | (with_reducible first | exact HB.out | apply below_alloc | apply pw_below_drewN | apply below_drew1) | exact HB.out))) : w.heap.size ≤ gb102)); have n3_ := Aside0.mk ((by rw [hg]; exact (below_size (by repeat (first | (with_reducible first | exact HB.out | apply below_alloc | apply pw_below_drewN | apply below_drew1) | exact HB.out))) : w.heap.size ≤ gb102)); clear HB; have HB := n0_; have BK102 := n1_; have GW102 := n2_; have GE102 := n3_; clear n0_ n1_ n2_ n3_; clear hb hbox hg; have hcz5_0 : w4.cell? ⟨gb102, 0, none⟩ = some (.int .u8 a0_0) := (blk_cell BK102.out 0).trans rfl; have hcz5_1 : w4.cell? ⟨gb102, 1, none⟩ = some (.int .i64 a0_1) := (blk_cell BK102.out 1).trans rfl; have hcz5_2 : w4.cell? ⟨gb102, 2, none⟩ = some (.int .i64 a0_2) := (blk_cell BK102.out 2).trans rfl; have hcz5_3 : w4.cell? ⟨gb102, 3, none⟩ = some (.int .u64 a0_3) := (blk_cell BK102.out 3).trans rfl; have hfz5_0 := blk_frozen BK102.out 0; have hfz5_1 := blk_frozen BK102.out 1; have hfz5_2 := blk_frozen BK102.out 2; have hfz5_3 := blk_frozen BK102.out 3))
  (try simp only [Act.put, List.setIfInBounds_toArray, List.set_cons_zero, List.set_cons_succ])
  go_cut [7] (fun v7 wc => ∃ (kq : Nat) (x7_2 : Bool), v7 = .bool x7_2 ∧ Aside0 (code_follows.j0 kq a1 a0_0 x7_2 a0_0 a0_1 a0_2 a0_3 = some r) ∧ Aside0 (kq ≤ k) ∧ Aside0 (wc.heap[gb102]? = some (.cells #[.int .u8 a0_0, .int .i64 a0_1, .int .i64 a0_2, .int .u64 a0_3] 38 (0, 0))) ∧ Aside0 (Below w.heap.size w wc))
  case first =>
    have H := HC3.out
    clear HC3
    by_cases c6 : a0_0 = 13
    · rw [if_pos c6] at H
      have c6b0 : (a0_0 == 13) = true := beq_iff_eq.mpr c6
      have c6b1 : (a0_0 != 13) = false := bne_eq_false_iff_eq.mpr c6
      clear c6
      (first | rw [c6b0] | (simp only [i64_w, i32_w]; rw [c6b0]) | skip)
      have H' := Aside0.mk H
      clear H
      go_wp2
      go_meet
      case rel => exact ⟨_, ((a0_0 == 13)), (by first | rfl | (simp; done) | (simp [*]; done)), H', ⟨by first | omega | exact Nat.le_refl _⟩, ⟨by (with_reducible repeat (first | refine blk_drewN ?_ _ | refine blk_drew ?_ | refine blk_alloc ?_ _)); exact BK102.out⟩, ⟨by repeat (first | (with_reducible first | exact HB.out | apply below_alloc | apply pw_below_drewN | apply below_drew1 | refine below_set ?_ GE102.out) | exact HB.out)⟩⟩
    · rw [if_neg c6] at H
      have c6b0 : (a0_0 == 13) = false := beq_eq_false_iff_ne.mpr c6
      have c6b1 : (a0_0 != 13) = true := bne_iff_ne.mpr c6
      (first | rw [c6b0] | (simp only [i64_w, i32_w]; rw [c6b0]) | skip)
      by_cases c7 : a0_0 = 15
      · rw [if_pos c7] at H
        have c7b0 : (a0_0 == 15) = true := beq_iff_eq.mpr c7
        have c7b1 : (a0_0 != 15) = false := bne_eq_false_iff_eq.mpr c7
        clear c7
        have H' := Aside0.mk H
        clear H
        go_wp2
        go_meet
        case rel => exact ⟨_, ((a0_0 == 15)), (by first | rfl | (simp; done) | (simp [*]; done)), H', ⟨by first | omega | exact Nat.le_refl _⟩, ⟨by (with_reducible repeat (first | refine blk_drewN ?_ _ | refine blk_drew ?_ | refine blk_alloc ?_ _)); exact BK102.out⟩, ⟨by repeat (first | (with_reducible first | exact HB.out | apply below_alloc | apply pw_below_drewN | apply below_drew1 | refine below_set ?_ GE102.out) | exact HB.out)⟩⟩
      · rw [if_neg c7] at H
        have c7b0 : (a0_0 == 15) = false := beq_eq_false_iff_ne.mpr c7
        have c7b1 : (a0_0 != 15) = true := bne_iff_ne.mpr c7
        have H' := Aside0.mk H
        clear H
        go_wp2
        go_meet
        case rel => exact ⟨_, ((a0_0 == 16)), (by first | rfl | (simp; done) | (simp [*]; done)), H', ⟨by first | omega | exact Nat.le_refl _⟩, ⟨by (with_reducible repeat (first | refine blk_drewN ?_ _ | refine blk_drew ?_ | refine blk_alloc ?_ _)); exact BK102.out⟩, ⟨by repeat (first | (with_reducible first | exact HB.out | apply below_alloc | apply pw_below_drewN | apply below_drew1 | refine below_set ?_ GE102.out) | exact HB.out)⟩⟩
  case rest =>
    clear HC3
    try clear c2
    try clear p2
    try clear c6
    try clear c6b0
    try clear c6b1
    try clear c7
    try clear c7b0
    try clear c7b1
    try clear hcz5_0
    try clear hcz5_1
    try clear hcz5_2
    try clear hcz5_3
    try clear hfz5_0
    try clear hfz5_1
    try clear hfz5_2
    try clear hfz5_3
    obtain ⟨kq, x7_2, rfl, HA, HJ2, BK102, HB⟩ := hcut
    cases kq with
    | zero => exact absurd HA.out (by simp [code_follows.j0])
    | succ kj2 =>
      have H := HA.out
      clear HA
      simp only [code_follows.j0] at H
      by_cases c8 : x7_2 = true
      · subst c8
        have H1 : (some ([] : List Int)) = some r := by rw [if_pos rfl] at H; exact H
        clear H
        have H := H1
        clear H1
        obtain rfl := Option.some.inj H
        go_wp2
        go_ret
        exact ⟨_, by first | rfl | (simp [errW_none, errW_some] <;> rfl) | (simp [*, errW_none, errW_some] <;> rfl), by first | exact Kd.R_nil _ _ _ _ _ | exact Kd.N_nil _ _ _ _ _ | exact Kd.V_nil _ _ _ _ _ | exact Kd.Q_nil _ _ _ _ _ | exact Kd.S_nil _ _ _ _ _, by repeat (first | (with_reducible first | exact HB.out | apply below_alloc | apply pw_below_drewN | apply below_drew1 | refine below_set ?_ GE102.out) | exact HB.out)⟩
      · replace c8 := Bool.eq_false_iff.mpr c8
        subst c8
        have H1 : (if a0_0 = 8 then (some (([a0_1] : List Int))) else (if a0_0 = 9 then (some (([wrap64 (a1 + 1), a0_1] : List Int))) else (some (([wrap64 (a1 + 1)] : List Int))))) = some r := by rw [if_neg (show ¬ (false = true) by decide)] at H; exact H
        clear H
        have H := H1
        clear H1
        by_cases c9 : a0_0 = 8
        · rw [if_pos c9] at H
          have c9b0 : (a0_0 == 8) = true := beq_iff_eq.mpr c9
          have c9b1 : (a0_0 != 8) = false := bne_eq_false_iff_eq.mpr c9
          clear c9
          obtain ⟨y103, hy103⟩ : ∃ y_ : List Int, y_ = (([a0_1] : List Int)) := ⟨_, rfl⟩
          replace H : (some y103) = some r := by first | (rw [hy103]; with_reducible exact H) | (have H2_ := (Option.bind_some _ _).symm.trans H; rw [hy103]; with_reducible exact H2_) | (have H2_ := (Option.bind_some _ _).symm.trans H; with_reducible exact H2_) | with_reducible exact H | (rw [hy103]; exact H) | exact H
          have Ny103 := Aside0.mk hy103
          clear hy103
          obtain rfl := Option.some.inj H
          have hcz10_0 : wc.cell? ⟨gb102, 0, none⟩ = some (.int .u8 a0_0) := (blk_cell BK102.out 0).trans rfl
          have hcz10_1 : wc.cell? ⟨gb102, 1, none⟩ = some (.int .i64 a0_1) := (blk_cell BK102.out 1).trans rfl
          have hcz10_2 : wc.cell? ⟨gb102, 2, none⟩ = some (.int .i64 a0_2) := (blk_cell BK102.out 2).trans rfl
          have hcz10_3 : wc.cell? ⟨gb102, 3, none⟩ = some (.int .u64 a0_3) := (blk_cell BK102.out 3).trans rfl
          have hfz10_0 := blk_frozen BK102.out 0
          have hfz10_1 := blk_frozen BK102.out 1
          have hfz10_2 := blk_frozen BK102.out 2
          have hfz10_3 := blk_frozen BK102.out 3
          go_wp2_with (first | ((with_reducible refine gate_dst (N := 15) rfl ?_); refine Kd.R_lit (Kd.int .i64) _ 3 ?hg (N := 15) ?hd (xs := ([a0_1] : List Int)) (inner := [.int .i64 a0_1]) (ok := fun _ => True) (okp := fun _ => True) ?hr ?hp (fun _ hk => hk) trivial (Below.refl _ _) (Nat.le_refl _) (by simp) ?_; (case hd => rfl); (case hg => rfl); (case hr => first | (go_simp; done) | (go_simp; rfl)); (case hp => exact (Reps.one (show Kd.M (Kd.int .i64) _ _ _ a0_1 [.int .i64 a0_1] from rfl) (Reps.none _ _))); intro v104 w11 ho12 hb hg_ hnew_; clear hg_ hnew_; (first | rw [← Ny103.out] at ho12 | (simp only [Int.reduceToNat] at ho12; rw [← Ny103.out] at ho12)); have n0_ := Aside0.mk (Kd.R_lower ho12 (below_size (by repeat (first | (with_reducible first | exact HB.out | apply below_alloc | apply pw_below_drewN | apply below_drew1 | refine below_set ?_ GE102.out) | exact HB.out)))); have n1_ := Aside0.mk (blk_below (g := gb102) (o := .cells #[.int .u8 a0_0, .int .i64 a0_1, .int .i64 a0_2, .int .u64 a0_3] 38 (0, 0)) (by (with_reducible repeat (first | refine blk_drewN ?_ _ | refine blk_drew ?_ | refine blk_alloc ?_ _)); exact BK102.out) hb); have n2_ := Aside0.mk (below_step (by repeat (first | (with_reducible first | exact HB.out | apply below_alloc | apply pw_below_drewN | apply below_drew1 | refine below_set ?_ GE102.out) | exact HB.out)) hb); clear BK102; clear HB; have HO105 := n0_; have BK102 := n1_; have HB := n2_; clear n0_ n1_ n2_; clear hb ho12))
          go_ret
          exact ⟨_, by first | rfl | (simp [errW_none, errW_some] <;> rfl) | (simp [*, errW_none, errW_some] <;> rfl), by (with_reducible repeat (first | apply Kd.R_alloc | apply Kd.R_drewN | apply Kd.R_drew)); exact HO105.out, by repeat (first | (with_reducible first | exact HB.out | apply below_alloc | apply pw_below_drewN | apply below_drew1 | refine below_set ?_ GE102.out) | exact HB.out)⟩
        · rw [if_neg c9] at H
          have c9b0 : (a0_0 == 8) = false := beq_eq_false_iff_ne.mpr c9
          have c9b1 : (a0_0 != 8) = true := bne_iff_ne.mpr c9
          by_cases c13 : a0_0 = 9
          · rw [if_pos c13] at H
            have c13b0 : (a0_0 == 9) = true := beq_iff_eq.mpr c13
            have c13b1 : (a0_0 != 9) = false := bne_eq_false_iff_eq.mpr c13
            clear c13
            obtain ⟨y106, hy106⟩ : ∃ y_ : List Int, y_ = (([wrap64 (a1 + 1), a0_1] : List Int)) := ⟨_, rfl⟩
            replace H : (some y106) = some r := by first | (rw [hy106]; with_reducible exact H) | (have H2_ := (Option.bind_some _ _).symm.trans H; rw [hy106]; with_reducible exact H2_) | (have H2_ := (Option.bind_some _ _).symm.trans H; with_reducible exact H2_) | with_reducible exact H | (rw [hy106]; exact H) | exact H
            have Ny106 := Aside0.mk hy106
            clear hy106
            obtain rfl := Option.some.inj H
            have hcz14_0 : wc.cell? ⟨gb102, 0, none⟩ = some (.int .u8 a0_0) := (blk_cell BK102.out 0).trans rfl
            have hcz14_1 : wc.cell? ⟨gb102, 1, none⟩ = some (.int .i64 a0_1) := (blk_cell BK102.out 1).trans rfl
            have hcz14_2 : wc.cell? ⟨gb102, 2, none⟩ = some (.int .i64 a0_2) := (blk_cell BK102.out 2).trans rfl
            have hcz14_3 : wc.cell? ⟨gb102, 3, none⟩ = some (.int .u64 a0_3) := (blk_cell BK102.out 3).trans rfl
            have hfz14_0 := blk_frozen BK102.out 0
            have hfz14_1 := blk_frozen BK102.out 1
            have hfz14_2 := blk_frozen BK102.out 2
            have hfz14_3 := blk_frozen BK102.out 3
            go_wp2_with (first | ((with_reducible refine gate_dst (N := 22) rfl ?_); refine Kd.R_lit (Kd.int .i64) _ 3 ?hg (N := 22) ?hd (xs := ([wrap64 (a1 + 1), a0_1] : List Int)) (inner := [.int .i64 (wrap64 (a1 + 1)), .int .i64 a0_1]) (ok := fun _ => True) (okp := fun _ => True) ?hr ?hp (fun _ hk => hk) trivial (Below.refl _ _) (Nat.le_refl _) (by simp) ?_; (case hd => rfl); (case hg => rfl); (case hr => first | (go_simp; done) | (go_simp; rfl)); (case hp => exact (Reps.one (show Kd.M (Kd.int .i64) _ _ _ (wrap64 (a1 + 1)) [.int .i64 (wrap64 (a1 + 1))] from rfl) (Reps.one (show Kd.M (Kd.int .i64) _ _ _ a0_1 [.int .i64 a0_1] from rfl) (Reps.none _ _)))); intro v107 w15 ho16 hb hg_ hnew_; clear hg_ hnew_; (first | rw [← Ny106.out] at ho16 | (simp only [Int.reduceToNat] at ho16; rw [← Ny106.out] at ho16)); have n0_ := Aside0.mk (Kd.R_lower ho16 (below_size (by repeat (first | (with_reducible first | exact HB.out | apply below_alloc | apply pw_below_drewN | apply below_drew1 | refine below_set ?_ GE102.out) | exact HB.out)))); have n1_ := Aside0.mk (blk_below (g := gb102) (o := .cells #[.int .u8 a0_0, .int .i64 a0_1, .int .i64 a0_2, .int .u64 a0_3] 38 (0, 0)) (by (with_reducible repeat (first | refine blk_drewN ?_ _ | refine blk_drew ?_ | refine blk_alloc ?_ _)); exact BK102.out) hb); have n2_ := Aside0.mk (below_step (by repeat (first | (with_reducible first | exact HB.out | apply below_alloc | apply pw_below_drewN | apply below_drew1 | refine below_set ?_ GE102.out) | exact HB.out)) hb); clear BK102; clear HB; have HO108 := n0_; have BK102 := n1_; have HB := n2_; clear n0_ n1_ n2_; clear hb ho16))
            go_ret
            exact ⟨_, by first | rfl | (simp [errW_none, errW_some] <;> rfl) | (simp [*, errW_none, errW_some] <;> rfl), by (with_reducible repeat (first | apply Kd.R_alloc | apply Kd.R_drewN | apply Kd.R_drew)); exact HO108.out, by repeat (first | (with_reducible first | exact HB.out | apply below_alloc | apply pw_below_drewN | apply below_drew1 | refine below_set ?_ GE102.out) | exact HB.out)⟩
          · rw [if_neg c13] at H
            have c13b0 : (a0_0 == 9) = false := beq_eq_false_iff_ne.mpr c13
            have c13b1 : (a0_0 != 9) = true := bne_iff_ne.mpr c13
            obtain ⟨y109, hy109⟩ : ∃ y_ : List Int, y_ = (([wrap64 (a1 + 1)] : List Int)) := ⟨_, rfl⟩
            replace H : (some y109) = some r := by first | (rw [hy109]; with_reducible exact H) | (have H2_ := (Option.bind_some _ _).symm.trans H; rw [hy109]; with_reducible exact H2_) | (have H2_ := (Option.bind_some _ _).symm.trans H; with_reducible exact H2_) | with_reducible exact H | (rw [hy109]; exact H) | exact H
            have Ny109 := Aside0.mk hy109
            clear hy109
            obtain rfl := Option.some.inj H
            go_wp2_with (first | ((with_reducible refine gate_dst (N := 25) rfl ?_); refine Kd.R_lit (Kd.int .i64) _ 3 ?hg (N := 25) ?hd (xs := ([wrap64 (a1 + 1)] : List Int)) (inner := [.int .i64 (wrap64 (a1 + 1))]) (ok := fun _ => True) (okp := fun _ => True) ?hr ?hp (fun _ hk => hk) trivial (Below.refl _ _) (Nat.le_refl _) (by simp) ?_; (case hd => rfl); (case hg => rfl); (case hr => first | (go_simp; done) | (go_simp; rfl)); (case hp => exact (Reps.one (show Kd.M (Kd.int .i64) _ _ _ (wrap64 (a1 + 1)) [.int .i64 (wrap64 (a1 + 1))] from rfl) (Reps.none _ _))); intro v110 w17 ho18 hb hg_ hnew_; clear hg_ hnew_; (first | rw [← Ny109.out] at ho18 | (simp only [Int.reduceToNat] at ho18; rw [← Ny109.out] at ho18)); have n0_ := Aside0.mk (Kd.R_lower ho18 (below_size (by repeat (first | (with_reducible first | exact HB.out | apply below_alloc | apply pw_below_drewN | apply below_drew1 | refine below_set ?_ GE102.out) | exact HB.out)))); have n1_ := Aside0.mk (blk_below (g := gb102) (o := .cells #[.int .u8 a0_0, .int .i64 a0_1, .int .i64 a0_2, .int .u64 a0_3] 38 (0, 0)) (by (with_reducible repeat (first | refine blk_drewN ?_ _ | refine blk_drew ?_ | refine blk_alloc ?_ _)); exact BK102.out) hb); have n2_ := Aside0.mk (below_step (by repeat (first | (with_reducible first | exact HB.out | apply below_alloc | apply pw_below_drewN | apply below_drew1 | refine below_set ?_ GE102.out) | exact HB.out)) hb); clear BK102; clear HB; have HO111 := n0_; have BK102 := n1_; have HB := n2_; clear n0_ n1_ n2_; clear hb ho18))
            go_ret
            exact ⟨_, by first | rfl | (simp [errW_none, errW_some] <;> rfl) | (simp [*, errW_none, errW_some] <;> rfl), by (with_reducible repeat (first | apply Kd.R_alloc | apply Kd.R_drewN | apply Kd.R_drew)); exact HO111.out, by repeat (first | (with_reducible first | exact HB.out | apply below_alloc | apply pw_below_drewN | apply below_drew1 | refine below_set ?_ GE102.out) | exact HB.out)⟩

/-! ### code_Depth: function 11 -/
def takesP (i : S38) : Int := if i.f0 = 11 then i.f2 else if i.f0 = 12 ∨ i.f0 = 13 then i.f1 else 0
def followsP (i : S38) (at_ : Int) : List Int := if i.f0 = 13 ∨ i.f0 = 15 ∨ i.f0 = 16 then [] else if i.f0 = 8 then [i.f1] else if i.f0 = 9 then [at_ + 1, i.f1] else [at_ + 1]
def depSet (n at_ left : Int) : List Int → List Int → Option (List Int)
  | d, [] => some d
  | d, p :: r => if p ≤ at_ ∨ n ≤ p ∨ (d.getD p.toNat 0 ≠ -1 ∧ d.getD p.toNat 0 ≠ left) then none else depSet n at_ left (d.set p.toNat left) r
def leftP (i : S38) (x : Int) : Int := x - takesP i + if i.f0 = 7 then 1 else 0
def depStep (L : List (S38)) (k : Nat) (i : S38) (d : List Int) : Option (List Int) :=
  if d.getD k 0 = -1 then some d else if takesP i < 0 ∨ d.getD k 0 < takesP i then none else depSet L.length k (leftP i (d.getD k 0)) d (followsP i k)
def depRun (L : List (S38)) : Nat → List (S38) → List Int → Option (List Int)
  | _, [], d => some d
  | k, i :: r, d => (depStep L k i d).bind (depRun L (k + 1) r)
def depOf (L : List (S38)) : Option (List Int) := depRun L 0 L (0 :: List.replicate (L.length - 1) (-1))
def okIns (i : S38) : Prop := 0 ≤ i.f0 ∧ i.f0 < 256 ∧ -9223372036854775808 ≤ i.f1 ∧ i.f1 < 9223372036854775808 ∧ -9223372036854775808 ≤ i.f2 ∧ i.f2 < 9223372036854775808 ∧ 0 ≤ i.f3 ∧ i.f3 < 18446744073709551616
instance (i : S38) : Decidable (okIns i) := by unfold okIns; infer_instance
def code_Depth.f (a0_0 : Int) (l0_1 : List (S38)) : Option (List Int × Bool) :=
  if l0_1.length = 0 then some ([], false) else if l0_1.length ≤ 1000000 ∧ ∀ i ∈ l0_1, okIns i then (match depOf l0_1 with | some d => some (d, true) | none => some ([], false)) else none
theorem takes_ok (i : S38) : code_takes.f i.f0 i.f1 i.f2 i.f3 = some (takesP i) := by
  unfold code_takes.f takesP
  by_cases h1 : i.f0 = 11
  · simp [h1]
  · by_cases h2 : i.f0 = 12
    · simp [h2]
    · by_cases h3 : i.f0 = 13 <;> simp [h1, h2, h3]
theorem follows_ok (i : S38) (k : Int) (h0 : 0 ≤ k) (h1 : k < 2000000) : code_follows.f 2 i.f0 i.f1 i.f2 i.f3 k = some (followsP i k) := by
  have hw : wrap64 (k + 1) = k + 1 := by unfold wrap64; omega
  unfold code_follows.f followsP
  by_cases h1 : i.f0 = 13
  · simp [h1, code_follows.j0]
  · by_cases h2 : i.f0 = 15
    · simp [h2, code_follows.j0]
    · by_cases h3 : i.f0 = 16
      · simp [h3, code_follows.j0]
      · by_cases h4 : i.f0 = 8
        · simp [h4, code_follows.j0]
        · by_cases h5 : i.f0 = 9 <;> simp [h1, h2, h3, h4, h5, code_follows.j0, hw]
theorem leftP_range (i : S38) (x : Int) (h0 : 0 ≤ takesP i) (h1 : takesP i ≤ x) : 0 ≤ leftP i x ∧ leftP i x ≤ x + 1 := by unfold leftP; split <;> omega
/-- what each place may be -/
def dOk (d : List Int) : Prop := ∀ (j : Nat) (x : Int), d[j]? = some x → -1 ≤ x ∧ x ≤ j
theorem dOk_get {d : List Int} (h : dOk d) (j : Nat) (hj : j < d.length) : -1 ≤ d.getD j 0 ∧ d.getD j 0 ≤ j := by
  have := h j _ (List.getElem?_eq_getElem hj)
  rw [List.getD_eq_getElem?_getD, List.getElem?_eq_getElem hj]; exact this
theorem dOk_set {d : List Int} (h : dOk d) (p : Nat) (x : Int) (h0 : -1 ≤ x) (h1 : x ≤ p) : dOk (d.set p x) := by
  intro j y hj
  rw [List.getElem?_set] at hj
  split at hj
  · split at hj
    · cases hj; rename_i e _; subst e; exact ⟨h0, h1⟩
    · cases hj
  · exact h j y hj
theorem nums_get' (xs : List Int) (g : Nat) (W : World) (e : Nat) (h : W.heap[g]? = some (.cells (xs.map fun x => Value.int .i64 x).toArray e (0, 0))) (j : Nat) (hj : j < xs.length) : W.cell? ⟨g, j, none⟩ = some (.int .i64 (xs.getD j 0)) := by
  rw [Heap.blk_cell h, List.getD_eq_getElem?_getD]
  simp [List.getElem?_eq_getElem hj]
set_option maxHeartbeats 4000000 in
set_option maxRecDepth 100000 in
theorem code_Depth.calls (a0_0 : Int) (A0_1 : Option Addr) (c0_1 : Nat) (l0_1 : List (S38)) (r1 : List Int) (r2 : Bool) (w : World) (hr0_1 : Kd.C k38 w A0_1 l0_1.length l0_1) (hc0_1 : l0_1.length ≤ c0_1) (h : code_Depth.f a0_0 l0_1 = some (r1, r2)) :
    Calls Tryd.prog 11 #[.agg #[.int .i64 a0_0, .slice A0_1 l0_1.length c0_1]] w fun e w' => ∃ v0_ : Value, e = .returned (.tuple #[v0_, .bool r2]) ∧ Kd.R (Kd.int .i64) 3 w' w.heap.size (fun _ => True) v0_ r1 ∧ Below w.heap.size w w' := by
  unfold code_Depth.f at h
  by_cases hn0 : l0_1.length = 0
  · rw [if_pos hn0] at h
    cases h
    have t1 : ((l0_1.length : Int) == 0) = true := by simp [hn0]
    clear hr0_1
    go_enter Tryd.func11, Tryd.ntmps11
    go_wp2_with fail
    go_step3
    go_wp2_with fail
    rw [Exit.noGoto_ret]
    go_ret2
    exact ⟨_, rfl, Kd.R_nil _ _ _ _ _, (Below.refl _ _).alloc (Nat.le_refl _) _⟩
  · rw [if_neg hn0] at h
    by_cases hok : l0_1.length ≤ 1000000 ∧ ∀ i ∈ l0_1, okIns i
    · rw [if_pos hok] at h
      obtain ⟨hn, hok⟩ := hok
      have t1 : ((l0_1.length : Int) == 0) = false := by rw [beq_eq_false_iff_ne]; omega
      have t1' : (l0_1.length == 0) = false := by rw [beq_eq_false_iff_ne]; omega
      obtain ⟨ad, hA, z0, _⟩ := at_T38 hr0_1 0 (Int.le_refl _) (by omega)
      obtain ⟨ab, ao, sp⟩ := ad
      have hsp : sp = none := by
        have := World.cell?_spot z0
        simpa [Addr.add] using this
      subst hsp hA
      clear z0
      have RP := fun b w (hx : w.cell? ⟨b, 0, none⟩ = some (.int .i64 (-1))) => Lib2.repeat_calls b 0 1 (-1) l0_1.length w hx hn
      obtain ⟨n, hnn⟩ : ∃ n, n = l0_1.length := ⟨_, rfl⟩
      go_enter Tryd.func11, Tryd.ntmps11
      go_wp2_with fail
      go_step3
      go_wp2_with fail
      refine (RP _ _ (by rw [Heap.blk_cell (Heap.blk_new (by simp))]; rfl)).mono ?_
      rintro e w2 ⟨g, rfl, hg, hle, hch⟩
      have hgs := Heap.blk_lt hg
      have g0 : w2.cell? ⟨g, 0, none⟩ = some (.int .i64 ((List.replicate l0_1.length (-1)).getD 0 0)) := nums_get' _ _ _ _ hg 0 (by simp; omega)
      have gz : w2.frozen? ⟨g, 0, none⟩ = false := Heap.blk_frozen hg 0
      have bx2 : w2.heap[w.heap.size]? = some (.cells #[.int .i64 a0_0, .slice (some ⟨ab, ao, none⟩) l0_1.length c0_1] 31 (0, 0)) := hch.at (Heap.blk_old (by simp) (Heap.blk_new rfl)) (by simp)
      have hgb : g ≠ w.heap.size := by simp at hle; omega
      have hgw : w.heap.size ≤ g := by simp at hle; omega
      have C2 : Heap.Chg [] w w2 := (((Heap.Chg.refl _ _).alloc _).alloc _).same hch
      have hg3 : (w2.setCell ⟨g, 0, none⟩ (.int .i64 0)).heap[g]? = some (.cells ((0 :: List.replicate (l0_1.length - 1) (-1)).map fun x => Value.int .i64 x).toArray 3 (0, 0)) := by
        rw [Heap.blk_set hg]
        congr 2
        obtain ⟨m, hm⟩ : ∃ m, l0_1.length = m + 1 := ⟨l0_1.length - 1, by omega⟩
        rw [hm]; simp [Heap.nums, List.replicate_succ]
      have bx3 := Heap.blk_far bx2 hgb.symm (p := ⟨g, 0, none⟩) (.int .i64 0)
      have C3 : Heap.Chg [] w (w2.setCell ⟨g, 0, none⟩ (.int .i64 0)) := C2.set _ _ (.inr hgw)
      have c1 : (w2.setCell ⟨g, 0, none⟩ (.int .i64 0)).cell? ⟨w.heap.size, 1, none⟩ = some (.slice (some ⟨ab, ao, none⟩) l0_1.length c0_1) := by rw [Heap.blk_cell bx3]; rfl
      have HG3 := Lib.hid hg3
      have HB3 := Lib.hid bx3
      have HC3 := Lib.hid C3
      clear hg3 bx3 C3 C2 bx2 hg hch hle t1 t1' RP
      go_wp2_with fail
      clear g0 gz
      generalize w2.setCell ⟨g, 0, none⟩ (.int .i64 0) = w3 at *
      go_step3
      go_wp2_with fail
      clear c1
      have HR := Lib.hid hr0_1
      have HH := Lib.hid h
      have HO := Lib.hid hok
      clear hr0_1 h hok
      go_loopw [24] (fun i wr => ∃ k : Nat, i = .int .i64 k ∧ k ≤ l0_1.length ∧ ∃ d : List Int, Hid (d.length = l0_1.length) ∧ Hid (dOk d) ∧ Hid (depRun l0_1 k (l0_1.drop k) d = depOf l0_1) ∧
        Hid (wr.heap[g]? = some (.cells (d.map fun x => Value.int .i64 x).toArray 3 (0, 0))) ∧ Hid (wr.heap[w.heap.size]? = some (.cells #[.int .i64 a0_0, .slice (some ⟨ab, ao, none⟩) l0_1.length c0_1] 31 (0, 0))) ∧ Hid (Heap.Chg [] w wr)) (fun i _ => l0_1.length - (intOf i).toNat)
      case atStart =>
        refine ⟨0, rfl, Nat.zero_le _, _, Lib.hid ?_, Lib.hid ?_, Lib.hid rfl, HG3, HB3, HC3⟩
        · simp; omega
        · intro j x hj
          cases j with
          | zero => simp at hj; omega
          | succ j => simp [List.getElem?_replicate] at hj; omega
      case round =>
        obtain ⟨k, rfl, hk, d, HL, HD, HRUN, HGD, HBX, HCH⟩ := hrel
        by_cases hlt : k < l0_1.length
        · obtain ⟨ins, hins⟩ : ∃ ins, l0_1[k]? = some ins := ⟨_, List.getElem?_eq_getElem hlt⟩
          have hrd : rd_T38 l0_1 (k : Int) = ins := by
            unfold rd_T38; rw [Int.toNat_natCast, List.getD_eq_getElem?_getD, hins]; rfl
          have hdrop : l0_1.drop k = ins :: l0_1.drop (k + 1) := by
            rw [List.drop_eq_getElem_cons hlt]; congr 1; exact (List.getElem?_eq_some_iff.1 hins).2
          have hoki := HO.out ins (List.mem_of_getElem? hins)
          obtain ⟨ad, hA, q0, q1, q2, q3⟩ := at_T38 HR.out (k : Int) (by omega) (by omega)
          rw [hrd] at q0 q1 q2 q3
          cases hA
          simp only [Int.toNat_natCast, Lib2.add_pl] at q0 q1 q2 q3
          have hb := HCH.out.below
          replace q0 := (hb.cell (World.block_lt_of_cell? w _ q0)).trans q0
          replace q1 := (hb.cell (World.block_lt_of_cell? w _ q1)).trans q1
          replace q2 := (hb.cell (World.block_lt_of_cell? w _ q2)).trans q2
          replace q3 := (hb.cell (World.block_lt_of_cell? w _ q3)).trans q3
          have hl := HL.out
          have hg1 := Heap.blk_lt HGD.out
          obtain ⟨hx1, hx2⟩ := dOk_get HD.out k (by omega)
          obtain ⟨x, hx⟩ : ∃ x, d.getD k 0 = x := ⟨_, rfl⟩
          have cg : ∀ o, (wr.alloc o).cell? ⟨g, k, none⟩ = some (.int .i64 x) := fun o => by
            rw [← hx]; exact nums_get' _ _ _ _ (Heap.blk_old hg1 HGD.out) k (by omega)
          rw [hx] at hx1 hx2
          have bk0 : (0 : Int) ≤ (k : Int) := Int.natCast_nonneg _
          have bk1 : (k : Int) < (l0_1.length : Int) := by omega
          clear hrd hb hl
          go_upto_region 8 with fail
          have W5X : (wr.alloc (.cells #[.int .u8 ins.f0, .int .i64 ins.f1, .int .i64 ins.f2, .int .u64 ins.f3] 38)).heap[wr.heap.size]? = some (.cells #[.int .u8 ins.f0, .int .i64 ins.f1, .int .i64 ins.f2, .int .u64 ins.f3] 38 (0, 0)) := Heap.blk_new rfl
          have W5G := Heap.blk_old (o' := .cells #[.int .u8 ins.f0, .int .i64 ins.f1, .int .i64 ins.f2, .int .u64 ins.f3] 38) hg1 HGD.out
          have W5B := Heap.blk_old (o' := .cells #[.int .u8 ins.f0, .int .i64 ins.f1, .int .i64 ins.f2, .int .u64 ins.f3] 38) (Heap.blk_lt HBX.out) HBX.out
          have W5C := HCH.out.alloc (.cells #[.int .u8 ins.f0, .int .i64 ins.f1, .int .i64 ins.f2, .int .u64 ins.f3] 38)
          have cg5 := cg (.cells #[.int .u8 ins.f0, .int .i64 ins.f1, .int .i64 ins.f2, .int .u64 ins.f3] 38)
          clear cg q0 q1 q2 q3
          generalize hW5 : wr.alloc (.cells #[.int .u8 ins.f0, .int .i64 ins.f1, .int .i64 ins.f2, .int .u64 ins.f3] 38) = W5 at *
          clear hW5
          have hpg : wr.heap.size ≠ g := by omega
          generalize wr.heap.size = px at *
          have P0 : W5.cell? ⟨px, 0, none⟩ = some (.int .u8 ins.f0) := by rw [Heap.blk_cell W5X]; rfl
          have P1 : W5.cell? ⟨px, 1, none⟩ = some (.int .i64 ins.f1) := by rw [Heap.blk_cell W5X]; rfl
          have P2 : W5.cell? ⟨px, 2, none⟩ = some (.int .i64 ins.f2) := by rw [Heap.blk_cell W5X]; rfl
          have P3 : W5.cell? ⟨px, 3, none⟩ = some (.int .u64 ins.f3) := by rw [Heap.blk_cell W5X]; rfl
          have HI := Lib.hid hins
          have HDR := Lib.hid hdrop
          have H5G := Lib.hid W5G
          have H5B := Lib.hid W5B
          have H5C := Lib.hid W5C
          have HX := Lib.hid hx
          clear hins hdrop W5G W5B W5C hx hg1
          by_cases hxm : x = -1
          · have t2 : (x == -1) = true := by simp [hxm]
            have HXM := Lib.hid hxm
            clear hxm
            go_wp2_with fail
            go_roundw
            case rel =>
              refine ⟨k + 1, by go_num, by omega, d, HL, HD, Lib.hid ?_, H5G, H5B, H5C⟩
              have hrun := HRUN.out
              rw [HDR.out] at hrun
              simp only [depRun, depStep, HX.out, HXM.out, if_true, Option.bind_some] at hrun
              exact hrun
            case measure => simp [intOf]; omega
          · have t2 : (x == -1) = false := by simpa using hxm
            have hstep : (depStep l0_1 k ins d).bind (depRun l0_1 (k + 1) (l0_1.drop (k + 1))) = depOf l0_1 := by
              have := HRUN.out
              rw [HDR.out] at this
              exact this
            unfold depStep at hstep
            rw [HX.out, if_neg hxm] at hstep
            have HST := Lib.hid hstep
            have x0 : 0 ≤ x := by omega
            clear hxm hstep
            have TK := fun w => code_takes.calls ins.f0 ins.f1 ins.f2 ins.f3 (takesP ins) w (takes_ok ins)
            have hrt : -9223372036854775808 ≤ takesP ins ∧ takesP ins < 9223372036854775808 := by
              unfold takesP; obtain ⟨_, _, _, _, _, _, _, _⟩ := hoki; split
              · omega
              · split <;> omega
            have hlr := leftP_range ins x
            obtain ⟨t, ht⟩ : ∃ t, takesP ins = t := ⟨_, rfl⟩
            rw [ht] at hrt TK hlr
            obtain ⟨y, hy⟩ : ∃ y, IntKind.i64.wrap (x - t) = y := ⟨_, rfl⟩
            have hyv : 0 ≤ t → y = x - t := fun h0 => by rw [← hy, IntKind.wrap_i64]; omega
            have HY := Lib.hid hyv
            have HT := Lib.hid ht
            clear hyv ht
            have KS : ∀ W, Below W5.heap.size W5 W → W.cell? ⟨g, k, none⟩ = some (.int .i64 x) ∧ W.cell? ⟨px, 0, none⟩ = some (.int .u8 ins.f0) ∧ W.cell? ⟨px, 1, none⟩ = some (.int .i64 ins.f1) ∧ W.cell? ⟨px, 2, none⟩ = some (.int .i64 ins.f2) ∧ W.cell? ⟨px, 3, none⟩ = some (.int .u64 ins.f3) := fun W b =>
              ⟨(b.cell (World.block_lt_of_cell? _ _ cg5)).trans cg5, (b.cell (World.block_lt_of_cell? _ _ P0)).trans P0, (b.cell (World.block_lt_of_cell? _ _ P1)).trans P1, (b.cell (World.block_lt_of_cell? _ _ P2)).trans P2, (b.cell (World.block_lt_of_cell? _ _ P3)).trans P3⟩
            have HKS := Lib.hid KS
            clear KS
            go_upto_region 9 with fail
            go_region_held3 (fun w' => w'.cell? ⟨g, k, none⟩ = some (.int .i64 x) ∧ w'.cell? ⟨px, 0, none⟩ = some (.int .u8 ins.f0) ∧ w'.cell? ⟨px, 1, none⟩ = some (.int .i64 ins.f1) ∧ w'.cell? ⟨px, 2, none⟩ = some (.int .i64 ins.f2) ∧ w'.cell? ⟨px, 3, none⟩ = some (.int .u64 ins.f3))
              (first | go_keep | exact HKS.out _ ((Below.refl _ _).drew.trans (by assumption)))
              ((go_at_call 19; refine (TK _).mono ?_; rintro e W6 ⟨rfl, hb6⟩))
            have C6 : Heap.Chg [] w W6 := H5C.out.same (Heap.Chg.of_below ((Below.refl _ _).drew.trans hb6))
            have b6 := HKS.out W6 ((Below.refl _ _).drew.trans hb6)
            have s6 := hb6.size
            have hblk : ∀ b, b < W5.heap.size → W6.heap[b]? = W5.heap[b]? := fun b hb => ((Below.refl _ _).drew.trans hb6).block b hb
            have G6 := (hblk g (Heap.blk_lt H5G.out)).trans H5G.out
            have B6 := (hblk _ (Heap.blk_lt H5B.out)).trans H5B.out
            have X6 := (hblk _ (Heap.blk_lt W5X)).trans W5X
            obtain ⟨Z0, Z1, Z2, Z3, Z4⟩ := b6
            have HC6 := Lib.hid C6
            have HG6 := Lib.hid G6
            have HB6 := Lib.hid B6
            have HX6 := Lib.hid X6
            clear C6 G6 B6 X6 hblk hb6 cg5 P0 P1 P2 P3 W5X s6
            by_cases hbad : t < 0 ∨ x < t
            · have hnone : depOf l0_1 = none := by
                have := HST.out
                rw [HT.out, if_pos hbad] at this
                exact this.symm
              have hh := HH.out
              rw [hnone] at hh
              cases hh
              by_cases hy0 : y < 0
              · have t3 : decide (y < 0) = true := by simpa using hy0
                clear hbad hnone hy0
                go_wp2_with fail
                rw [Exit.noGoto_ret]
                go_ret2
                exact ⟨_, rfl, Kd.R_nil _ _ _ _ _, HC6.out.below⟩
              · have t3 : decide (y < 0) = false := by simpa using hy0
                have ht0 : t < 0 := by
                  rcases hbad with h1 | h1
                  · exact h1
                  · by_cases h2 : t < 0
                    · exact h2
                    · have := HY.out (by omega); omega
                have t4 : decide (t < 0) = true := by simpa using ht0
                clear hbad hnone hy0 ht0
                go_wp2_with (go_at_call 19; refine (TK _).mono ?_; rintro e W7 ⟨rfl, hb7⟩)
                rw [Exit.noGoto_ret]
                go_ret2
                exact ⟨_, rfl, Kd.R_nil _ _ _ _ _, (HC6.out.same (Heap.Chg.of_below hb7)).below⟩
            · have hyv := HY.out (by omega)
              have t3 : decide (y < 0) = false := by simp; omega
              have t4 : decide (t < 0) = false := by simp; omega
              have hl1 := hlr (by omega) (by omega)
              have hset : (depSet l0_1.length k (leftP ins x) d (followsP ins k)).bind (depRun l0_1 (k + 1) (l0_1.drop (k + 1))) = depOf l0_1 := by
                have := HST.out
                rw [HT.out, if_neg hbad] at this
                exact this
              have HSET := Lib.hid hset
              have hlv : leftP ins x = y + if ins.f0 = 7 then 1 else 0 := by unfold leftP; rw [HT.out, hyv]
              have FO := fun w => code_follows.calls 2 ins.f0 ins.f1 ins.f2 ins.f3 (k : Int) (followsP ins k) w (follows_ok ins k (by omega) (by omega))
              obtain ⟨lv, hlv2⟩ : ∃ lv, leftP ins x = lv := ⟨_, rfl⟩
              rw [hlv2] at hl1 hlv
              have HLV := Lib.hid hlv2
              have hyr : 0 ≤ y ∧ y ≤ x := by omega
              rw [hlv2] at hset
              have HSET := Lib.hid hset
              clear hset hlv2 hbad hyv hlr
              have HYW := Lib.hid hy
              clear hy
              have KS7 : Hid (∀ W, Below W6.heap.size W6 W → W.cell? ⟨g, k, none⟩ = some (.int .i64 x) ∧ W.cell? ⟨px, 0, none⟩ = some (.int .u8 ins.f0) ∧ W.cell? ⟨px, 1, none⟩ = some (.int .i64 ins.f1) ∧ W.cell? ⟨px, 2, none⟩ = some (.int .i64 ins.f2) ∧ W.cell? ⟨px, 3, none⟩ = some (.int .u64 ins.f3)) := Lib.hid fun W b =>
                ⟨(b.cell (World.block_lt_of_cell? _ _ Z0)).trans Z0, (b.cell (World.block_lt_of_cell? _ _ Z1)).trans Z1, (b.cell (World.block_lt_of_cell? _ _ Z2)).trans Z2, (b.cell (World.block_lt_of_cell? _ _ Z3)).trans Z3, (b.cell (World.block_lt_of_cell? _ _ Z4)).trans Z4⟩
              have KB7 : Hid (∀ W, Below W6.heap.size W6 W → W.heap[g]? = some (.cells (d.map fun x => Value.int .i64 x).toArray 3 (0, 0)) ∧ W.heap[w.heap.size]? = some (.cells #[.int .i64 a0_0, .slice (some ⟨ab, ao, none⟩) l0_1.length c0_1] 31 (0, 0)) ∧ Heap.Chg [] w W ∧ g < W.heap.size) := Lib.hid fun W b =>
                ⟨(b.block _ (Heap.blk_lt HG6.out)).trans HG6.out, (b.block _ (Heap.blk_lt HB6.out)).trans HB6.out, HC6.out.same (Heap.Chg.of_below b), Nat.lt_of_lt_of_le (Heap.blk_lt HG6.out) b.size⟩
              by_cases h7 : ins.f0 = 7
              · have t7 : (ins.f0 == 7) = true := by simp [h7]
                rw [if_pos h7] at hlv
                clear h7
                go_upto_region 14 with (go_at_call 19; refine (TK _).mono ?_; rintro e W7 ⟨rfl, hb7⟩; obtain ⟨Y0, Y1, Y2, Y3, Y4⟩ := KS7.out W7 hb7)
                have h67 := KB7.out W7 hb7
                obtain ⟨G7, B7, C7, S7⟩ := h67
                have HG7 := Lib.hid G7
                have HB7 := Lib.hid B7
                have HC7 := Lib.hid C7
                have HF := Lib.hid hb7
                clear Z0 Z1 Z2 Z3 Z4 hb7 G7 B7 C7
                go_wp2_with fail
                refine (FO _).mono ?_
                rintro e W8 ⟨v8, rfl, hR8, hb8⟩
                rw [← hlv]
                clear hlv
                obtain ⟨Af, cf, hv8, hlcf, _⟩ := Kd.R_reads hR8
                subst hv8
                have hb8b := hb8.block
                have G8 := (hb8b g S7).trans HG7.out
                have B8 := (hb8b _ (Heap.blk_lt HB7.out)).trans HB7.out
                have C8 := HC7.out.same (Heap.Chg.of_below hb8)
                have R8 : Kd.R (Kd.int .i64) 3 W8 W7.heap.size (fun b => b ≠ g) (.slice Af (followsP ins k).length cf) (followsP ins k) := Kd.R_mono (Kd.R_bound hR8) (fun b hb => by have := hb.2.1; omega)
                have hfl : (followsP ins k).length ≤ 2 := by unfold followsP; split <;> (try split) <;> (try split) <;> simp
                have HG8 := Lib.hid G8
                have HB8 := Lib.hid B8
                have HC8 := Lib.hid C8
                have HR8 := Lib.hid R8
                clear hR8 hb8b G8 B8 C8 R8 FO hb8
                generalize hfs : followsP ins k = fs at *
                clear hfs
                go_wp2_with fail
                obtain ⟨wo, rfl⟩ : ∃ wo : World, wo = wr := ⟨_, rfl⟩
                have HS0 := HSET
                go_loopw [57] (fun j wx => ∃ m : Nat, j = .int .i64 m ∧ m ≤ fs.length ∧ ∃ d' : List Int, Hid (d'.length = l0_1.length) ∧ Hid (dOk d') ∧ Hid (depSet l0_1.length k lv d' (fs.drop m) = depSet l0_1.length k lv d fs) ∧
                  Hid (wx.heap[g]? = some (.cells (d'.map fun x => Value.int .i64 x).toArray 3 (0, 0))) ∧ Hid (wx.heap[w.heap.size]? = some (.cells #[.int .i64 a0_0, .slice (some ⟨ab, ao, none⟩) l0_1.length c0_1] 31 (0, 0))) ∧
                  Hid (Kd.R (Kd.int .i64) 3 wx W7.heap.size (fun b => b ≠ g) (.slice Af fs.length cf) fs) ∧ Hid (Heap.Chg [] w wx)) (fun j _ => fs.length - (intOf j).toNat)
                case atStart => exact ⟨0, rfl, Nat.zero_le _, d, HL, HD, Lib.hid rfl, HG8, HB8, HR8, HC8⟩
                case round =>
                  obtain ⟨m, rfl, hm, d', HL', HD', HS', HG', HB', HR', HC'⟩ := hrel
                  by_cases hml : m < fs.length
                  · obtain ⟨gf, cap, hvf, _⟩ := Kd.R_form HR'.out (by omega)
                    simp only [Value.slice.injEq] at hvf
                    obtain ⟨rfl, _, rfl⟩ := hvf
                    obtain ⟨_, _, hCf⟩ := Kd.R_reads' HR'.out
                    obtain ⟨adf, hAf, hcf⟩ := Kd.at_int hCf (m : Int) (by omega) (by omega)
                    cases hAf
                    simp only [Int.toNat_natCast, Lib2.add_pl, Nat.zero_add] at hcf
                    have hdr : fs.drop m = rd fs (m : Int) :: fs.drop (m + 1) := by
                      rw [List.drop_eq_getElem_cons hml]; unfold rd
                      rw [Int.toNat_natCast, List.getD_eq_getElem?_getD, List.getElem?_eq_getElem hml]; rfl
                    have hs := HS'.out
                    rw [hdr] at hs
                    generalize rd fs (m : Int) = p at *
                    simp only [depSet] at hs
                    have bm0 : (0 : Int) ≤ (m : Int) := Int.natCast_nonneg _
                    have bm1 : (m : Int) < (fs.length : Int) := by omega
                    have cbx : wr.cell? ⟨w.heap.size, 1, none⟩ = some (.slice (some ⟨ab, ao, none⟩) l0_1.length c0_1) := by rw [Heap.blk_cell HB'.out]; rfl
                    clear hCf hdr
                    by_cases hp1 : p ≤ (k : Int)
                    · rw [if_pos (.inl hp1)] at hs
                      have hno := HS0.out
                      rw [← hs] at hno
                      have hh := HH.out
                      rw [← hno] at hh
                      cases hh
                      have t8 : decide (p ≤ (k : Int)) = true := by simpa using hp1
                      clear hs hno hp1
                      go_wp2_with fail
                      first | (rw [Exit.noGoto_ret]; go_ret2) | go_ret2
                      exact ⟨_, rfl, Kd.R_nil _ _ _ _ _, HC'.out.below⟩
                    · have t8 : decide (p ≤ (k : Int)) = false := by simpa using hp1
                      by_cases hp2 : (l0_1.length : Int) ≤ p
                      · rw [if_pos (.inr (.inl hp2))] at hs
                        have hno := HS0.out
                        rw [← hs] at hno
                        have hh := HH.out
                        rw [← hno] at hh
                        cases hh
                        have t9 : decide (p ≥ (l0_1.length : Int)) = true := by simpa using hp2
                        clear hs hno hp1 hp2
                        go_wp2_with fail
                        first | (rw [Exit.noGoto_ret]; go_ret2) | go_ret2
                        exact ⟨_, rfl, Kd.R_nil _ _ _ _ _, HC'.out.below⟩
                      · have t9 : decide (p ≥ (l0_1.length : Int)) = false := by simpa using hp2
                        obtain ⟨q, rfl⟩ : ∃ q : Nat, p = q := ⟨p.toNat, by omega⟩
                        have hl' := HL'.out
                        have cgq := nums_get' _ _ _ _ HG'.out q (by omega)
                        have czq := Heap.blk_frozen HG'.out q
                        rw [Int.toNat_natCast] at hs
                        obtain ⟨z, hz⟩ : ∃ z, d'.getD q 0 = z := ⟨_, rfl⟩
                        rw [hz] at cgq hs
                        have bq0 : (0 : Int) ≤ (q : Int) := Int.natCast_nonneg _
                        have bq1 : (q : Int) < (l0_1.length : Int) := by omega
                        have hkq : k < q := by omega
                        clear hz
                        by_cases hbz : z ≠ -1 ∧ z ≠ lv
                        · rw [if_pos (.inr (.inr hbz))] at hs
                          have hno := HS0.out
                          rw [← hs] at hno
                          have hh := HH.out
                          rw [← hno] at hh
                          cases hh
                          have t10 : (z != -1) = true := by simpa using hbz.1
                          have t11 : (z != lv) = true := by simpa using hbz.2
                          clear hs hno hp1 hp2 hbz hl'
                          go_wp2_with fail
                          first | (rw [Exit.noGoto_ret]; go_ret2) | go_ret2
                          exact ⟨_, rfl, Kd.R_nil _ _ _ _ _, HC'.out.below⟩
                        · rw [if_neg (by rintro (h1 | h1 | h1); exact hp1 h1; exact hp2 h1; exact hbz h1)] at hs
                          have N1 : ∀ u, Hid (wr.setCell ⟨g, q, none⟩ u |>.heap[w.heap.size]? = some (.cells #[.int .i64 a0_0, .slice (some ⟨ab, ao, none⟩) l0_1.length c0_1] 31 (0, 0))) := fun u => Lib.hid (Heap.blk_far HB'.out hgb.symm _)
                          have N2 : Hid ((wr.setCell ⟨g, q, none⟩ (.int .i64 lv)).heap[g]? = some (.cells ((d'.set q lv).map fun x => Value.int .i64 x).toArray 3 (0, 0))) := Lib.hid (by
                            rw [Heap.blk_set HG'.out]; simp [List.map_set])
                          have N3 : Hid (Kd.R (Kd.int .i64) 3 (wr.setCell ⟨g, q, none⟩ (.int .i64 lv)) W7.heap.size (fun b => b ≠ g) (.slice (some ⟨gf, 0, none⟩) fs.length cf) fs) := Lib.hid (Kd.R_far (p := ⟨g, q, none⟩) HR'.out (fun b hb => hb) _)
                          have N4 : Hid (Heap.Chg [] w (wr.setCell ⟨g, q, none⟩ (.int .i64 lv))) := Lib.hid (HC'.out.set _ _ (.inr hgw))
                          have N5 : Hid (dOk (d'.set q lv)) := Lib.hid (dOk_set HD'.out q lv (by omega) (by omega))
                          have NS := Lib.hid hs
                          have N6 : Hid ((d'.set q lv).length = l0_1.length) := Lib.hid (by simpa using hl')
                          clear hs hl'
                          by_cases hz1 : z = -1
                          · have t10 : (z != -1) = false := by simpa using hz1
                            clear hp1 hp2 hbz hz1
                            go_wp2_with fail
                            go_roundw
                            case rel => exact ⟨m + 1, by go_num, by omega, _, N6, N5, NS, N2, N1 _, N3, N4⟩
                            case measure => simp [intOf]; omega
                          · have t10 : (z != -1) = true := by simpa using hz1
                            have t11 : (z != lv) = false := by
                              by_cases h2 : z = lv
                              · simpa using h2
                              · exact absurd ⟨hz1, h2⟩ hbz
                            clear hp1 hp2 hbz hz1
                            go_wp2_with fail
                            go_roundw
                            case rel => exact ⟨m + 1, by go_num, by omega, _, N6, N5, NS, N2, N1 _, N3, N4⟩
                            case measure => simp [intOf]; omega
                  · obtain rfl : m = fs.length := by omega
                    have hs := HS'.out
                    rw [List.drop_length] at hs
                    have hst := HS0.out
                    rw [← hs] at hst
                    simp only [depSet, Option.bind_some] at hst
                    have HN := Lib.hid hst
                    clear hs hst
                    go_wp2_with fail
                    go_roundw
                    case rel => exact ⟨k + 1, by go_num, by omega, d', HL', HD', HN, HG', HB', HC'⟩
                    case measure => simp [intOf]; omega
              · have t7 : (ins.f0 == 7) = false := by simpa using h7
                rw [if_neg h7, Int.add_zero] at hlv
                clear h7
                subst hlv
                go_upto_region 14 with (go_at_call 19; refine (TK _).mono ?_; rintro e W7 ⟨rfl, hb7⟩; obtain ⟨Y0, Y1, Y2, Y3, Y4⟩ := KS7.out W7 hb7)
                have h67 := KB7.out W7 hb7
                obtain ⟨G7, B7, C7, S7⟩ := h67
                have HG7 := Lib.hid G7
                have HB7 := Lib.hid B7
                have HC7 := Lib.hid C7
                have HF := Lib.hid hb7
                clear Z0 Z1 Z2 Z3 Z4 hb7 G7 B7 C7
                go_wp2_with fail
                refine (FO _).mono ?_
                rintro e W8 ⟨v8, rfl, hR8, hb8⟩
                obtain ⟨Af, cf, hv8, hlcf, _⟩ := Kd.R_reads hR8
                subst hv8
                have hb8b := hb8.block
                have G8 := (hb8b g S7).trans HG7.out
                have B8 := (hb8b _ (Heap.blk_lt HB7.out)).trans HB7.out
                have C8 := HC7.out.same (Heap.Chg.of_below hb8)
                have R8 : Kd.R (Kd.int .i64) 3 W8 W7.heap.size (fun b => b ≠ g) (.slice Af (followsP ins k).length cf) (followsP ins k) := Kd.R_mono (Kd.R_bound hR8) (fun b hb => by have := hb.2.1; omega)
                have hfl : (followsP ins k).length ≤ 2 := by unfold followsP; split <;> (try split) <;> (try split) <;> simp
                have HG8 := Lib.hid G8
                have HB8 := Lib.hid B8
                have HC8 := Lib.hid C8
                have HR8 := Lib.hid R8
                clear hR8 hb8b G8 B8 C8 R8 FO hb8
                generalize hfs : followsP ins k = fs at *
                clear hfs
                go_wp2_with fail
                obtain ⟨wo, rfl⟩ : ∃ wo : World, wo = wr := ⟨_, rfl⟩
                have HS0 := HSET
                go_loopw [57] (fun j wx => ∃ m : Nat, j = .int .i64 m ∧ m ≤ fs.length ∧ ∃ d' : List Int, Hid (d'.length = l0_1.length) ∧ Hid (dOk d') ∧ Hid (depSet l0_1.length k lv d' (fs.drop m) = depSet l0_1.length k lv d fs) ∧
                  Hid (wx.heap[g]? = some (.cells (d'.map fun x => Value.int .i64 x).toArray 3 (0, 0))) ∧ Hid (wx.heap[w.heap.size]? = some (.cells #[.int .i64 a0_0, .slice (some ⟨ab, ao, none⟩) l0_1.length c0_1] 31 (0, 0))) ∧
                  Hid (Kd.R (Kd.int .i64) 3 wx W7.heap.size (fun b => b ≠ g) (.slice Af fs.length cf) fs) ∧ Hid (Heap.Chg [] w wx)) (fun j _ => fs.length - (intOf j).toNat)
                case atStart => exact ⟨0, rfl, Nat.zero_le _, d, HL, HD, Lib.hid rfl, HG8, HB8, HR8, HC8⟩
                case round =>
                  obtain ⟨m, rfl, hm, d', HL', HD', HS', HG', HB', HR', HC'⟩ := hrel
                  by_cases hml : m < fs.length
                  · obtain ⟨gf, cap, hvf, _⟩ := Kd.R_form HR'.out (by omega)
                    simp only [Value.slice.injEq] at hvf
                    obtain ⟨rfl, _, rfl⟩ := hvf
                    obtain ⟨_, _, hCf⟩ := Kd.R_reads' HR'.out
                    obtain ⟨adf, hAf, hcf⟩ := Kd.at_int hCf (m : Int) (by omega) (by omega)
                    cases hAf
                    simp only [Int.toNat_natCast, Lib2.add_pl, Nat.zero_add] at hcf
                    have hdr : fs.drop m = rd fs (m : Int) :: fs.drop (m + 1) := by
                      rw [List.drop_eq_getElem_cons hml]; unfold rd
                      rw [Int.toNat_natCast, List.getD_eq_getElem?_getD, List.getElem?_eq_getElem hml]; rfl
                    have hs := HS'.out
                    rw [hdr] at hs
                    generalize rd fs (m : Int) = p at *
                    simp only [depSet] at hs
                    have bm0 : (0 : Int) ≤ (m : Int) := Int.natCast_nonneg _
                    have bm1 : (m : Int) < (fs.length : Int) := by omega
                    have cbx : wr.cell? ⟨w.heap.size, 1, none⟩ = some (.slice (some ⟨ab, ao, none⟩) l0_1.length c0_1) := by rw [Heap.blk_cell HB'.out]; rfl
                    clear hCf hdr
                    by_cases hp1 : p ≤ (k : Int)
                    · rw [if_pos (.inl hp1)] at hs
                      have hno := HS0.out
                      rw [← hs] at hno
                      have hh := HH.out
                      rw [← hno] at hh
                      cases hh
                      have t8 : decide (p ≤ (k : Int)) = true := by simpa using hp1
                      clear hs hno hp1
                      go_wp2_with fail
                      first | (rw [Exit.noGoto_ret]; go_ret2) | go_ret2
                      exact ⟨_, rfl, Kd.R_nil _ _ _ _ _, HC'.out.below⟩
                    · have t8 : decide (p ≤ (k : Int)) = false := by simpa using hp1
                      by_cases hp2 : (l0_1.length : Int) ≤ p
                      · rw [if_pos (.inr (.inl hp2))] at hs
                        have hno := HS0.out
                        rw [← hs] at hno
                        have hh := HH.out
                        rw [← hno] at hh
                        cases hh
                        have t9 : decide (p ≥ (l0_1.length : Int)) = true := by simpa using hp2
                        clear hs hno hp1 hp2
                        go_wp2_with fail
                        first | (rw [Exit.noGoto_ret]; go_ret2) | go_ret2
                        exact ⟨_, rfl, Kd.R_nil _ _ _ _ _, HC'.out.below⟩
                      · have t9 : decide (p ≥ (l0_1.length : Int)) = false := by simpa using hp2
                        obtain ⟨q, rfl⟩ : ∃ q : Nat, p = q := ⟨p.toNat, by omega⟩
                        have hl' := HL'.out
                        have cgq := nums_get' _ _ _ _ HG'.out q (by omega)
                        have czq := Heap.blk_frozen HG'.out q
                        rw [Int.toNat_natCast] at hs
                        obtain ⟨z, hz⟩ : ∃ z, d'.getD q 0 = z := ⟨_, rfl⟩
                        rw [hz] at cgq hs
                        have bq0 : (0 : Int) ≤ (q : Int) := Int.natCast_nonneg _
                        have bq1 : (q : Int) < (l0_1.length : Int) := by omega
                        have hkq : k < q := by omega
                        clear hz
                        by_cases hbz : z ≠ -1 ∧ z ≠ lv
                        · rw [if_pos (.inr (.inr hbz))] at hs
                          have hno := HS0.out
                          rw [← hs] at hno
                          have hh := HH.out
                          rw [← hno] at hh
                          cases hh
                          have t10 : (z != -1) = true := by simpa using hbz.1
                          have t11 : (z != lv) = true := by simpa using hbz.2
                          clear hs hno hp1 hp2 hbz hl'
                          go_wp2_with fail
                          first | (rw [Exit.noGoto_ret]; go_ret2) | go_ret2
                          exact ⟨_, rfl, Kd.R_nil _ _ _ _ _, HC'.out.below⟩
                        · rw [if_neg (by rintro (h1 | h1 | h1); exact hp1 h1; exact hp2 h1; exact hbz h1)] at hs
                          have N1 : ∀ u, Hid (wr.setCell ⟨g, q, none⟩ u |>.heap[w.heap.size]? = some (.cells #[.int .i64 a0_0, .slice (some ⟨ab, ao, none⟩) l0_1.length c0_1] 31 (0, 0))) := fun u => Lib.hid (Heap.blk_far HB'.out hgb.symm _)
                          have N2 : Hid ((wr.setCell ⟨g, q, none⟩ (.int .i64 lv)).heap[g]? = some (.cells ((d'.set q lv).map fun x => Value.int .i64 x).toArray 3 (0, 0))) := Lib.hid (by
                            rw [Heap.blk_set HG'.out]; simp [List.map_set])
                          have N3 : Hid (Kd.R (Kd.int .i64) 3 (wr.setCell ⟨g, q, none⟩ (.int .i64 lv)) W7.heap.size (fun b => b ≠ g) (.slice (some ⟨gf, 0, none⟩) fs.length cf) fs) := Lib.hid (Kd.R_far (p := ⟨g, q, none⟩) HR'.out (fun b hb => hb) _)
                          have N4 : Hid (Heap.Chg [] w (wr.setCell ⟨g, q, none⟩ (.int .i64 lv))) := Lib.hid (HC'.out.set _ _ (.inr hgw))
                          have N5 : Hid (dOk (d'.set q lv)) := Lib.hid (dOk_set HD'.out q lv (by omega) (by omega))
                          have NS := Lib.hid hs
                          have N6 : Hid ((d'.set q lv).length = l0_1.length) := Lib.hid (by simpa using hl')
                          clear hs hl'
                          by_cases hz1 : z = -1
                          · have t10 : (z != -1) = false := by simpa using hz1
                            clear hp1 hp2 hbz hz1
                            go_wp2_with fail
                            go_roundw
                            case rel => exact ⟨m + 1, by go_num, by omega, _, N6, N5, NS, N2, N1 _, N3, N4⟩
                            case measure => simp [intOf]; omega
                          · have t10 : (z != -1) = true := by simpa using hz1
                            have t11 : (z != lv) = false := by
                              by_cases h2 : z = lv
                              · simpa using h2
                              · exact absurd ⟨hz1, h2⟩ hbz
                            clear hp1 hp2 hbz hz1
                            go_wp2_with fail
                            go_roundw
                            case rel => exact ⟨m + 1, by go_num, by omega, _, N6, N5, NS, N2, N1 _, N3, N4⟩
                            case measure => simp [intOf]; omega
                  · obtain rfl : m = fs.length := by omega
                    have hs := HS'.out
                    rw [List.drop_length] at hs
                    have hst := HS0.out
                    rw [← hs] at hst
                    simp only [depSet, Option.bind_some] at hst
                    have HN := Lib.hid hst
                    clear hs hst
                    go_wp2_with fail
                    go_roundw
                    case rel => exact ⟨k + 1, by go_num, by omega, d', HL', HD', HN, HG', HB', HC'⟩
                    case measure => simp [intOf]; omega
        · obtain rfl : k = l0_1.length := by omega
          have hrun := HRUN.out
          rw [List.drop_length] at hrun
          have hh := HH.out
          rw [← hrun] at hh
          simp only [depRun] at hh
          cases hh
          go_wp2_with fail
          rw [Exit.noGoto_ret]
          go_ret2
          refine ⟨_, rfl, ?_, HCH.out.below⟩
          have hl := HL.out
          have := R_of_block (k := .i64) HGD.out hgw hl.symm (by omega)
          rw [hl] at this
          exact this
    · rw [if_neg hok] at h; cases h

end Go.Proofs.YtkiamiphmndmcaaDoor.PCodes

/- The contract of first; each states its conditions. -/
import Derived.Test.YthfbkhjcnfjmmaaDoorLexC2
import Derived.Test.YthfbkhjcnfjmmaaDoorWWords
import Derived.Lib.Hide
namespace Go.Proofs.YthfbkhjcnfjmmaaDoor.LexC
open Go Go.RowKit Go.Proofs.YthfbkhjcnfjmmaaDoor.LexP Go.Proofs.YthfbkhjcnfjmmaaDoorW.PrintWords
theorem ext_list (s : ByteArray) (a b : Nat) : (s.extract a b).data.toList = (s.data.toList.drop a).take (b - a) := by
  rw [ByteArray.data_extract, Array.toList_extract]
/-- a text's first token as it is told -/
def firstV (m : Int) : Except Int ((Int × Int × List UInt8) × Nat) → Value
  | .error e => .tuple #[.agg #[.int .u8 0, .int .i64 0, .int .i64 0, .string ⟨#[]⟩], .int .i64 m, .int .i64 e]
  | .ok (t, n) => .tuple #[.agg #[.int .u8 t.1, .int .i64 0, .int .i64 t.2.1, .string ⟨t.2.2.toArray⟩], .int .i64 n, .int .i64 0]
theorem ib_marks (c : UInt8) : Lib.indexByte (⟨#[40, 41, 39]⟩ : ByteArray).data.toList c = if c == 40 then 0 else if c == 41 then 1 else if c == 39 then 2 else -1 := by
  show (if (40 : UInt8) == c then (0 : Int) else if (if (41 : UInt8) == c then (0 : Int) else if (if (39 : UInt8) == c then (0 : Int) else if (-1 : Int) == -1 then -1 else -1 + 1) == -1 then -1 else (if (39 : UInt8) == c then (0 : Int) else if (-1 : Int) == -1 then -1 else -1 + 1) + 1) == -1 then -1 else (if (41 : UInt8) == c then (0 : Int) else if (if (39 : UInt8) == c then (0 : Int) else if (-1 : Int) == -1 then -1 else -1 + 1) == -1 then -1 else (if (39 : UInt8) == c then (0 : Int) else if (-1 : Int) == -1 then -1 else -1 + 1) + 1) + 1) = _
  have e : ∀ a b : UInt8, (a == b) = (b == a) := fun a b => BEq.comm
  rw [e 40 c, e 41 c, e 39 c]
  cases c == 40 <;> cases c == 41 <;> cases c == 39 <;> rfl
theorem blk_new (w : World) (cs : Array Value) (t : TypeId) : (w.alloc (.cells cs t)).heap[w.heap.size]? = some (.cells cs t (0, 0)) := by
  show (w.heap.push _)[w.heap.size]? = _
  simp
/-- how many bytes are told beside what is wrong -/
def firstM (c : UInt8) (r : List UInt8) : Int := if c == 35 then 0 else ((word (c :: r)).length : Nat)
theorem firstP_cons (c : UInt8) (r : List UInt8) : firstP (c :: r) = if c == 40 then .ok ((1, 0, []), 1) else if c == 41 then .ok ((2, 0, []), 1) else if c == 39 then .ok ((3, 0, []), 1)
    else if c == 35 then (if word r = [116] then .ok ((5, 1, []), 2) else if word r = [102] then .ok ((5, 0, []), 2) else .error 50)
    else if word (c :: r) = [] then .error 50 else match tokP (word (c :: r)) with
      | .error e => .error e
      | .ok t => .ok (t, (word (c :: r)).length) := rfl
set_option maxHeartbeats 4000000 in
set_option maxRecDepth 100000 in
/-- first: the token that a text begins with, and how many bytes it has -/
theorem first_calls (s : ByteArray) (c : UInt8) (r : List UInt8) (w : World) (hl : s.data.toList = c :: r) (hs : s.size < 4294967296) (hV : Vars w) :
    Calls Tryd.prog 25 #[.string s] w fun e w' => e = .returned (firstV (firstM c r) (firstP (c :: r))) ∧ Below w.heap.size w w' := by
  have h0 : 0 < s.size := by rw [Lib.size_eq, hl]; simp
  have h0z : (1 : Int) ≤ (s.size : Int) := by omega
  have hc0 : s[0]'h0 = c := by
    have := Lib.data_getElem? s 0 h0
    rw [hl] at this; simpa using this.symm
  have IB := fun w => Tryd.strings_IndexByte ⟨#[40, 41, 39]⟩ (((s[0]'h0).toNat : Nat) : Int) w
  rw [show ((((s[0]'h0).toNat : Nat) : Int).toNat).toUInt8 = c from by rw [hc0]; simp [Nat.toUInt8], ib_marks] at IB
  rw [firstP_cons]
  by_cases m1 : c == 40
  · rw [if_pos m1] at IB ⊢
    clear hV hl hc0
    go_enter Tryd.func25, Tryd.ntmps25
    go_wp2_with (go_at_call 37; refine (IB _).mono ?_; rintro e w8 ⟨rfl, rfl⟩)
    refine bodyPost_ret (results_ctt rfl _ _ w.heap.size 48 _ (0, 0) _ rfl (blk_new w _ _) Tryd.underlying48 rfl (by kernel_rfl)) rfl ?_
    exact ⟨rfl, (Below.refl _ w).alloc (Nat.le_refl _) _⟩
  rw [if_neg m1] at IB ⊢
  by_cases m2 : c == 41
  · rw [if_pos m2] at IB ⊢
    clear hV hl hc0
    go_enter Tryd.func25, Tryd.ntmps25
    go_wp2_with (go_at_call 37; refine (IB _).mono ?_; rintro e w8 ⟨rfl, rfl⟩)
    refine bodyPost_ret (results_ctt rfl _ _ w.heap.size 48 _ (0, 0) _ rfl (blk_new w _ _) Tryd.underlying48 rfl (by kernel_rfl)) rfl ?_
    exact ⟨rfl, (Below.refl _ w).alloc (Nat.le_refl _) _⟩
  rw [if_neg m2] at IB ⊢
  by_cases m3 : c == 39
  · rw [if_pos m3] at IB ⊢
    clear hV hl hc0
    go_enter Tryd.func25, Tryd.ntmps25
    go_wp2_with (go_at_call 37; refine (IB _).mono ?_; rintro e w8 ⟨rfl, rfl⟩)
    refine bodyPost_ret (results_ctt rfl _ _ w.heap.size 48 _ (0, 0) _ rfl (blk_new w _ _) Tryd.underlying48 rfl (by kernel_rfl)) rfl ?_
    exact ⟨rfl, (Below.refl _ w).alloc (Nat.le_refl _) _⟩
  rw [if_neg m3] at IB ⊢
  have WC := fun x w => word_calls x w
  by_cases m4 : c == 35
  · rw [if_pos m4, show firstM c r = 0 from if_pos m4]
    have e35 : ((((s[0]'h0).toNat : Nat) : Int) == 35) = true := by rw [hc0, show c = 35 from by simpa using m4]; rfl
    have hxl : (s.extract 1 s.size).data.toList = r := by rw [ext_list, hl]; simp [Lib.size_eq, hl]
    have WC1 := fun w => WC (s.extract 1 s.size) w
    rw [hxl] at WC1
    have hn : (word r).length ≤ r.length := (List.takeWhile_prefix _).length_le
    have hz : s.size = r.length + 1 := by rw [Lib.size_eq, hl]; rfl
    obtain ⟨n, hnn⟩ : ∃ n : Nat, n = (word r).length := ⟨_, rfl⟩
    have hyl : (s.extract 1 (1 + n)).data.toList = word r := by rw [ext_list, hl, hnn]; simp [word, tw_take]
    rw [← hnn] at WC1
    have b1 : (1 : Int) + (n : Int) ≤ (s.size : Int) := by omega
    have b2 : (1 : Int) ≤ 1 + (n : Int) := by omega
    have hnb : (n : Int) < 4294967296 := by omega
    have yl : (s.extract 1 (1 + n)).toList = word r := by rw [Lib.toList_data, hyl]
    clear hV hl hc0 WC hn hz hnn hyl hxl
    by_cases k1 : word r = [116]
    · have e1 : ((s.extract 1 (1 + n)).toList == [116]) = true := by rw [yl, k1]; rfl
      rw [if_pos k1]
      go_enter Tryd.func25, Tryd.ntmps25
      go_wp2_with (first | (go_at_call 37; refine (IB _).mono ?_; rintro e w8 ⟨rfl, rfl⟩) | (go_at_call 38; refine (WC1 _).mono ?_; rintro e w8 ⟨rfl, h8⟩; obtain ⟨q0, q1, q2, q3, g0, g1, g2, g3, s8, b8, bk⟩ := tok_cells h8; clear h8; replace bk := Aside0.mk bk))
      refine bodyPost_ret (results_ctt rfl _ _ w.heap.size 48 _ (0, 0) _ rfl (blk_set (blk_set (blk_set (blk_set bk.out 0 _) 1 _) 2 _) 3 _) Tryd.underlying48 rfl (by kernel_rfl)) rfl ?_
      exact ⟨rfl, (((b8.setCell (Nat.le_refl _) _).setCell (Nat.le_refl _) _).setCell (Nat.le_refl _) _).setCell (Nat.le_refl _) _⟩
    · have e1 : ((s.extract 1 (1 + n)).toList == [116]) = false := by rw [yl]; simpa using k1
      rw [if_neg k1]
      by_cases k2 : word r = [102]
      · have e2 : ((s.extract 1 (1 + n)).toList == [102]) = true := by rw [yl, k2]; rfl
        rw [if_pos k2]
        go_enter Tryd.func25, Tryd.ntmps25
        go_wp2_with (first | (go_at_call 37; refine (IB _).mono ?_; rintro e w8 ⟨rfl, rfl⟩) | (go_at_call 38; refine (WC1 _).mono ?_; rintro e w8 ⟨rfl, h8⟩; obtain ⟨q0, q1, q2, q3, g0, g1, g2, g3, s8, b8, bk⟩ := tok_cells h8; clear h8; replace bk := Aside0.mk bk))
        refine bodyPost_ret (results_ctt rfl _ _ w.heap.size 48 _ (0, 0) _ rfl (blk_set (blk_set (blk_set (blk_set bk.out 0 _) 1 _) 2 _) 3 _) Tryd.underlying48 rfl (by kernel_rfl)) rfl ?_
        exact ⟨rfl, (((b8.setCell (Nat.le_refl _) _).setCell (Nat.le_refl _) _).setCell (Nat.le_refl _) _).setCell (Nat.le_refl _) _⟩
      · have e2 : ((s.extract 1 (1 + n)).toList == [102]) = false := by rw [yl]; simpa using k2
        rw [if_neg k2]
        clear k1 k2 yl
        go_enter Tryd.func25, Tryd.ntmps25
        go_wp2_with (first | (go_at_call 37; refine (IB _).mono ?_; rintro e w8 ⟨rfl, rfl⟩) | (go_at_call 38; refine (WC1 _).mono ?_; rintro e w8 ⟨rfl, h8⟩; obtain ⟨q0, q1, q2, q3, g0, g1, g2, g3, s8, b8, bk⟩ := tok_cells h8; clear h8; replace bk := Aside0.mk bk))
        refine bodyPost_ret (results_ctt rfl _ _ w.heap.size 48 _ (0, 0) _ rfl (blk_set (blk_set (blk_set (blk_set bk.out 0 _) 1 _) 2 _) 3 _) Tryd.underlying48 rfl (by kernel_rfl)) rfl ?_
        exact ⟨rfl, (((b8.setCell (Nat.le_refl _) _).setCell (Nat.le_refl _) _).setCell (Nat.le_refl _) _).setCell (Nat.le_refl _) _⟩
  rw [if_neg m4, show firstM c r = ((word (c :: r)).length : Nat) from if_neg m4]
  have e35 : ((((s[0]'h0).toNat : Nat) : Int) == 35) = false := by
    rw [hc0]
    have : ¬ c.toNat = 35 := fun h => m4 (by rw [show c = 35 from UInt8.toNat_inj.1 h]; rfl)
    simpa using fun h => this (by omega)
  have WC1 := fun w => WC s w
  rw [hl] at WC1
  clear WC
  by_cases k0 : word (c :: r) = []
  · rw [if_pos k0, k0]
    rw [k0] at WC1
    clear hV hl hc0
    go_enter Tryd.func25, Tryd.ntmps25
    go_wp2_with (first | (go_at_call 37; refine (IB _).mono ?_; rintro e w8 ⟨rfl, rfl⟩) | (go_at_call 38; refine (WC1 _).mono ?_; rintro e w8 ⟨rfl, h8⟩; obtain ⟨q0, q1, q2, q3, g0, g1, g2, g3, s8, b8, bk⟩ := tok_cells h8; clear h8; replace bk := Aside0.mk bk))
    refine bodyPost_ret (results_ctt rfl _ _ w.heap.size 48 _ (0, 0) _ rfl (blk_set (blk_set (blk_set (blk_set bk.out 0 _) 1 _) 2 _) 3 _) Tryd.underlying48 rfl (by kernel_rfl)) rfl ?_
    exact ⟨rfl, (((b8.setCell (Nat.le_refl _) _).setCell (Nat.le_refl _) _).setCell (Nat.le_refl _) _).setCell (Nat.le_refl _) _⟩
  · rw [if_neg k0]
    obtain ⟨n, hnn⟩ : ∃ n : Nat, n = (word (c :: r)).length := ⟨_, rfl⟩
    have hn : (word (c :: r)).length ≤ (c :: r).length := (List.takeWhile_prefix _).length_le
    have hz : s.size = (c :: r).length := by rw [Lib.size_eq, hl]
    have hxl : (s.extract 0 n).data.toList = word (c :: r) := by rw [ext_list, hl, hnn]; simp [word, tw_take]
    have hn0 : n ≠ 0 := fun h => k0 (List.length_eq_zero_iff.1 (by rw [← hnn]; exact h))
    have TC := fun w hV => token_calls (s.extract 0 n) w (by rw [Lib.size_eq, hxl]; omega) hV
    rw [hxl] at TC
    rw [← hnn] at WC1 ⊢
    have b1 : (n : Int) ≤ (s.size : Int) := by omega
    have b2 : (0 : Int) ≤ (n : Int) := by omega
    have b3 : ((n : Int) == 0) = false := by simpa using hn0
    clear hl hc0 hnn hn hz hxl
    cases ht : tokP (word (c :: r)) with
    | error e9 =>
      rw [ht] at TC
      unfold tokV at TC
      simp only at TC
      go_enter Tryd.func25, Tryd.ntmps25
      go_wp2_with (first | (go_at_call 37; refine (IB _).mono ?_; rintro e w8 ⟨rfl, rfl⟩) | (go_at_call 38; refine (WC1 _).mono ?_; rintro e w8 ⟨rfl, h8⟩; obtain ⟨q0, q1, q2, q3, g0, g1, g2, g3, s8, b8, bk⟩ := tok_cells h8; clear h8; replace bk := Aside0.mk bk; have V8 := Aside0.mk (hV.below b8 (Nat.le_refl _))) | (go_at_call 39; refine (TC w8 V8.out).mono ?_; rintro e w9 ⟨rfl, h9⟩; have s9 : w.heap.size < w9.heap.size := Nat.lt_of_lt_of_le s8 h9.size; replace b8 := b8.trans (h9.mono (by omega)); replace q0 := (h9.cell (p := ⟨w.heap.size, 0, none⟩) s8).trans q0; replace q1 := (h9.cell (p := ⟨w.heap.size, 1, none⟩) s8).trans q1; replace q2 := (h9.cell (p := ⟨w.heap.size, 2, none⟩) s8).trans q2; replace q3 := (h9.cell (p := ⟨w.heap.size, 3, none⟩) s8).trans q3; replace g0 := (h9.frozen (p := ⟨w.heap.size, 0, none⟩) s8).trans g0; replace g1 := (h9.frozen (p := ⟨w.heap.size, 1, none⟩) s8).trans g1; replace g2 := (h9.frozen (p := ⟨w.heap.size, 2, none⟩) s8).trans g2; replace g3 := (h9.frozen (p := ⟨w.heap.size, 3, none⟩) s8).trans g3; replace bk := Aside0.mk ((h9.block _ s8).trans bk.out); clear h9 s8 V8; have s8 := s9; clear s9))
      refine bodyPost_ret (results_ctt rfl _ _ w.heap.size 48 _ (0, 0) _ rfl (blk_alloc (blk_set (blk_set (blk_set (blk_set bk.out 0 _) 1 _) 2 _) 3 _) _) Tryd.underlying48 rfl (by kernel_rfl)) rfl ?_
      exact ⟨rfl, ((((b8.setCell (Nat.le_refl _) _).setCell (Nat.le_refl _) _).setCell (Nat.le_refl _) _).setCell (Nat.le_refl _) _).alloc (by simpa using (Nat.le_of_lt s8)) _⟩
    | ok t =>
      obtain ⟨tk, tn, ts⟩ := t
      rw [ht] at TC
      unfold tokV at TC
      simp only at TC
      go_enter Tryd.func25, Tryd.ntmps25
      go_wp2_with (first | (go_at_call 37; refine (IB _).mono ?_; rintro e w8 ⟨rfl, rfl⟩) | (go_at_call 38; refine (WC1 _).mono ?_; rintro e w8 ⟨rfl, h8⟩; obtain ⟨q0, q1, q2, q3, g0, g1, g2, g3, s8, b8, bk⟩ := tok_cells h8; clear h8; replace bk := Aside0.mk bk; have V8 := Aside0.mk (hV.below b8 (Nat.le_refl _))) | (go_at_call 39; refine (TC w8 V8.out).mono ?_; rintro e w9 ⟨rfl, h9⟩; have s9 : w.heap.size < w9.heap.size := Nat.lt_of_lt_of_le s8 h9.size; replace b8 := b8.trans (h9.mono (by omega)); replace q0 := (h9.cell (p := ⟨w.heap.size, 0, none⟩) s8).trans q0; replace q1 := (h9.cell (p := ⟨w.heap.size, 1, none⟩) s8).trans q1; replace q2 := (h9.cell (p := ⟨w.heap.size, 2, none⟩) s8).trans q2; replace q3 := (h9.cell (p := ⟨w.heap.size, 3, none⟩) s8).trans q3; replace g0 := (h9.frozen (p := ⟨w.heap.size, 0, none⟩) s8).trans g0; replace g1 := (h9.frozen (p := ⟨w.heap.size, 1, none⟩) s8).trans g1; replace g2 := (h9.frozen (p := ⟨w.heap.size, 2, none⟩) s8).trans g2; replace g3 := (h9.frozen (p := ⟨w.heap.size, 3, none⟩) s8).trans g3; replace bk := Aside0.mk ((h9.block _ s8).trans bk.out); clear h9 s8 V8; have s8 := s9; clear s9))
      refine bodyPost_ret (results_ctt rfl _ _ w.heap.size 48 _ (0, 0) _ rfl (blk_alloc (blk_set (blk_set (blk_set (blk_set bk.out 0 _) 1 _) 2 _) 3 _) _) Tryd.underlying48 rfl (by kernel_rfl)) rfl ?_
      exact ⟨rfl, ((((b8.setCell (Nat.le_refl _) _).setCell (Nat.le_refl _) _).setCell (Nat.le_refl _) _).setCell (Nat.le_refl _) _).alloc (by simpa using (Nat.le_of_lt s8)) _⟩
end Go.Proofs.YthfbkhjcnfjmmaaDoor.LexC

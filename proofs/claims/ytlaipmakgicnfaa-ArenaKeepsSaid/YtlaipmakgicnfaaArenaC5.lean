/- The contract of Alloc; each theorem states its conditions. -/
import Derived.Test.YtlaipmakgicnfaaArenaC4
namespace Go.Proofs.Ytlaipmakgicnfaa.Ar
open Go Go.RowKit Go.Proofs.Ytlaipmakgicnfaa.Heap Go.Proofs.Ytlaipmakgicnfaa.Word
/-- the slice v reads as the words xs, in memory that is none of F -/
def Rd (w : World) (F : List Nat) (v : Value) (xs : List Int) : Prop :=
  ∃ A c, v = .slice A xs.length c ∧ (xs ≠ [] → ∃ b o, A = some ⟨b, o, none⟩ ∧ b ∉ F ∧ ∀ j x, xs[j]? = some x → w.cell? ⟨b, o + j, none⟩ = some (.int .u64 x))
theorem alloc_bad {w : World} {p : Value} (k : Int) (A : Option Addr) (m c : Nat) (hk : k < 1 ∨ 9 < k ∨ 255 < m) :
    Calls Try.prog 10 #[p, .int .i64 k, .slice A m c] w fun e w' => e = .returned (.tuple #[.int .u64 0, .int .i64 1]) ∧ w = w' := by
  by_cases h1 : k < 1
  · have t1 : decide (k < 1) = true := by simpa using h1
    clear hk h1
    go_enter Try.func10, Try.ntmps10
    go_wp2
    all_goals
      go_ret2
      exact ⟨rfl, rfl⟩
  · have t1 : decide (k < 1) = false := by simpa using h1
    by_cases h2 : k > 9
    · have t2 : decide (k > 9) = true := by simpa using h2
      clear hk h1 h2
      go_enter Try.func10, Try.ntmps10
      go_wp2
      all_goals
        go_ret2
        exact ⟨rfl, rfl⟩
    · have t2 : decide (k > 9) = false := by simpa using h2
      have t3 : decide ((m : Int) > 255) = true := by simp; omega
      clear hk h1 h2
      go_enter Try.func10, Try.ntmps10
      go_wp2
      all_goals
        go_ret2
        exact ⟨rfl, rfl⟩
theorem alloc_full {w : World} {g bw bh size : Nat} {l : List Thing} (h : IsAr w g bw bh size l) (k : Int) (A : Option Addr) (m c : Nat) (hk : 1 ≤ k) (hk' : k ≤ 9) (hm : m ≤ 255) (hf : size ≤ tot l + m) :
    Calls Try.prog 10 #[.pointer (some ⟨g, 0, none⟩), .int .i64 k, .slice A m c] w fun e w' => e = .returned (.tuple #[.int .u64 0, .int .i64 20]) ∧ w = w' := by
  have t1 : decide (k < 1) = false := by simp; omega
  have t2 : decide (k > 9) = false := by simp; omega
  have t3 : decide ((m : Int) > 255) = false := by simp; omega
  have hle := h.tot_le
  have hhi := h.hi
  have t4 : decide ((size : Int) - (tot l : Int) ≤ (m : Int)) = true := by simp; omega
  go_enter Try.func10, Try.ntmps10
  go_wp2_with (first
    | (go_at_call 14; refine (used_calls h).mono ?_; rintro e w1 ⟨rfl, rfl⟩)
    | (go_at_call 24; refine (size_calls h).mono ?_; rintro e w1 ⟨rfl, rfl⟩))
  all_goals
    go_ret2
    exact ⟨rfl, rfl⟩
theorem alloc_none (k : Int) (A : Option Addr) (m c : Nat) (w : World) (hk : 1 ≤ k) (hk' : k ≤ 9) (hm : m ≤ 255) :
    Calls Try.prog 10 #[.pointer none, .int .i64 k, .slice A m c] w fun e w' => e = .returned (.tuple #[.int .u64 0, .int .i64 20]) ∧ w = w' := by
  have t1 : decide (k < 1) = false := by simp; omega
  have t2 : decide (k > 9) = false := by simp; omega
  have t3 : decide ((m : Int) > 255) = false := by simp; omega
  have t4 : decide ((0 : Int) ≤ (m : Int)) = true := by simp
  go_enter Try.func10, Try.ntmps10
  go_wp2_with (first
    | (go_at_call 14; refine (used_nil _).mono ?_; rintro e w1 ⟨rfl, rfl⟩)
    | (go_at_call 24; refine (size_nil _).mono ?_; rintro e w1 ⟨rfl, rfl⟩))
  all_goals
    go_ret2
    exact ⟨rfl, rfl⟩
theorem add_plain' (b o j : Nat) : (⟨b, o, none⟩ : Addr).add j = ⟨b, o + j, none⟩ := by unfold Addr.add; split <;> simp_all
theorem copy_run {W : World} {bw n m c : Nat} {A : Option Addr} {cur xs : List Int} (hW : W.heap[bw]? = some (.cells (nums .u64 cur).toArray 31 (0, 0))) (hm : m = xs.length) (d : Nat) (hd : m ≤ d) (e : Nat)
    (hn : n + m ≤ cur.length) (B : Option Addr) (hB : m ≠ 0 → B = some ⟨bw, n, none⟩)
    (hr : xs ≠ [] → ∃ b o, A = some ⟨b, o, none⟩ ∧ ∀ j x, xs[j]? = some x → W.cell? ⟨b, o + j, none⟩ = some (.int .u64 x)) (ty : TypeId) :
    ∃ W', (Builtin.copy_ #[28, 28] ty #[.slice B d e, .slice A m c]).run Try.prog W = .ok (.int .i64 m) W' ∧
      W'.heap[bw]? = some (.cells (nums .u64 (cur.take n ++ xs ++ cur.drop (n + m))).toArray 31 (0, 0)) ∧ Chg [bw] W W' := by
  subst hm
  have hsz : (Try.prog.info? 31).map (·.size) = some 1 := by obtain ⟨i, hi, _, hs, _⟩ := info_parts infoW; rw [hi]; exact congrArg some hs
  by_cases h0 : xs = []
  · subst h0
    refine ⟨W, run_copy_none W _ _ ty _ B A d e 0 c underWs hsz (by simp), ?_, Chg.refl _ _⟩
    simpa using hW
  · have hl : 0 < xs.length := List.length_pos_iff.2 h0
    rw [hB (by omega)]
    obtain ⟨b, o, rfl, hc⟩ := hr h0
    have := run_copy_row (P := Try.prog) W 28 28 ty 31 bw n d e ⟨b, o, none⟩ xs.length c (nums .u64 cur).toArray 31 (nums .u64 xs) underWs hsz hW (by rw [show Nat.min xs.length d = xs.length from Nat.min_eq_left hd]; simp [nums])
      (by
        intro j v hv
        rw [add_plain']
        simp only [nums, List.getElem?_map, Option.map_eq_some_iff] at hv
        obtain ⟨x, hx, rfl⟩ := hv
        exact hc j x hx) (by simp [nums]; omega) (by intro v hv; simp only [nums, List.mem_map] at hv; obtain ⟨x, _, rfl⟩ := hv; rfl)
    have hl2 : (nums .u64 xs).length = xs.length := by simp [nums]
    rw [hl2] at this
    refine ⟨_, this, ?_, ⟨rfl, rfl, rfl, by simp [World.setRow], fun k hk hn => setRow_other W bw k _ (by simpa using hn)⟩⟩
    rw [setRow_heap W bw _ _ _ _ hW]
    simp [nums]
theorem i64_or8 {x y : Int} (hx : 0 ≤ x) (hx' : x < 1000000) (hy : 0 ≤ y) (hy' : y < 256) (hx8 : x % 256 = 0 := by omega) : Go.bits .or .i64 x y = x + y :=
  bits_join .i64 32 (by decide) (fun n h0 h1 => by rw [IntKind.wrap_i64]; omega) 8 x y hx (by simpa using hx8) (by simp; omega) hy (by simpa using hy') (by simp; omega)
theorem after_head {w : World} {g bw bh : Nat} {cg cw ch : Array Value} {uw uh : Value} (hg : w.heap[g]? = some (.cells cg 62 (0, 0))) (hw : w.heap[bw]? = some (.cells cw 31 (0, 0))) (hh : w.heap[bh]? = some (.cells ch 4 (0, 0)))
    (n : Nat) (n1 : g ≠ bw) (n2 : bh ≠ bw) (n3 : g ≠ bh) :
    ((w.setCell ⟨bw, n, none⟩ uw).setCell ⟨bh, n, none⟩ uh).drew.heap[g]? = some (.cells cg 62 (0, 0)) ∧
    ((w.setCell ⟨bw, n, none⟩ uw).setCell ⟨bh, n, none⟩ uh).drew.heap[bw]? = some (.cells (cw.setIfInBounds n uw) 31 (0, 0)) ∧
    ((w.setCell ⟨bw, n, none⟩ uw).setCell ⟨bh, n, none⟩ uh).drew.heap[bh]? = some (.cells (ch.setIfInBounds n uh) 4 (0, 0)) ∧
    Chg [g, bw, bh] w ((w.setCell ⟨bw, n, none⟩ uw).setCell ⟨bh, n, none⟩ uh).drew :=
  ⟨blk_far (blk_far hg n1 _) n3 _, blk_far (blk_set hw _ _) n2.symm _, blk_set (blk_far hh n2 _) _ _, (((Chg.refl _ _).set _ _ (.inl (by simp))).set _ _ (.inl (by simp))).drew⟩
theorem alloc_fin {w W1 : World} {g bw bh size : Nat} {l : List Thing} {k : Int} {xs zw : List Int} {zh : Nat} (hok : okT l) (lo : 1 ≤ size) (hi : size ≤ 65536) (zw0 : tot l + zw.length = size) (zh0 : tot l + zh = size)
    (hk : 1 ≤ k) (hk' : k ≤ 9) (hm : xs.length ≤ 255) (hf : tot l + xs.length < size) (ne1 : g ≠ bw) (ne2 : bh ≠ bw) (ne3 : g ≠ bh)
    (g1 : W1.heap[g]? = some (.cells #[.slice (some ⟨bw, 0, none⟩) size size, .slice (some ⟨bh, 0, none⟩) size size, .int .i64 (tot l : Int)] 62 (0, 0)))
    (g3 : W1.heap[bh]? = some (.cells (bools ((flatH l ++ List.replicate zh false).set (tot l) true)).toArray 4 (0, 0))) (ch1 : Chg [g, bw, bh] w W1)
    (W2 : World) (g4 : W2.heap[bw]? = some (.cells (nums .u64 (((flatW l ++ zw).set (tot l) ((xs.length : Int) * 256 + k)).take (tot l + 1) ++ xs ++ ((flatW l ++ zw).set (tot l) ((xs.length : Int) * 256 + k)).drop (tot l + 1 + xs.length))).toArray 31 (0, 0)))
    (ch2 : Chg [bw] W1.drew W2) (v : Int) (hv : v = (tot l : Int) + ((xs.length : Int) + 1)) :
    IsAr (W2.setCell ⟨g, 2, none⟩ (.int .i64 v)) g bw bh size (l ++ [(k, xs)]) ∧ Chg [g, bw, bh] w (W2.setCell ⟨g, 2, none⟩ (.int .i64 v)) := by
  have ht : tot (l ++ [(k, xs)]) = tot l + (xs.length + 1) := by rw [tot_append]; rfl
  have hW : flatW (l ++ [(k, xs)]) = flatW l ++ (((xs.length : Int) * 256 + k) :: xs) := by rw [flatW_append]; simp [flatW]
  have hH : flatH (l ++ [(k, xs)]) = flatH l ++ (true :: List.replicate xs.length false) := by rw [flatH_append]; simp [flatH]
  obtain ⟨z0, zw', rfl⟩ : ∃ z0 zw', zw = z0 :: zw' := by cases zw with | nil => simp at zw0; omega | cons a b => exact ⟨a, b, rfl⟩
  obtain ⟨zh', rfl⟩ : ∃ zh', zh = zh' + 1 := ⟨zh - 1, by omega⟩
  simp only [List.length_cons] at zw0
  have gb : W2.heap[bh]? = some (.cells (bools ((flatH l ++ List.replicate (zh' + 1) false).set (tot l) true)).toArray 4 (0, 0)) := ch2.at g3 (by simpa using ne2)
  have gg := ch2.at g1 (by simpa using ne1)
  refine ⟨⟨?_, ⟨zw'.drop xs.length, by rw [ht]; simp; omega, ?_⟩, ⟨zh' - xs.length, by rw [ht]; omega, ?_⟩, ?_, lo, hi⟩, ?_⟩
  · rw [blk_set gg, ht, hv]; rfl
  · rw [blk_far g4 ne1.symm, hW]
    congr 4
    rw [← flatW_len l, List.set_append_right _ _ (Nat.le_refl _), Nat.sub_self, List.set_cons_zero]
    rw [List.take_append, List.drop_append]
    rw [List.take_of_length_le (by omega), List.drop_of_length_le (by omega), show (flatW l).length + 1 - (flatW l).length = 1 by omega, show (flatW l).length + 1 + xs.length - (flatW l).length = xs.length + 1 by omega]
    simp
  · rw [blk_far gb ne3.symm, hH]
    congr 4
    rw [← flatH_len l, List.set_append_right _ _ (Nat.le_refl _), Nat.sub_self, List.replicate_succ, List.set_cons_zero, List.append_assoc, List.cons_append, List.replicate_append_replicate]
    congr 3; omega
  · intro o ho
    rcases List.mem_append.1 ho with ho | ho
    · exact hok o ho
    · simp at ho; subst ho; exact ⟨hk, hk', hm⟩
  · exact ((ch1.drew).trans ch2 (fun b hb => .inl (by simp at hb; subst hb; simp))).set _ _ (.inl (by simp))
theorem alloc_calls {w : World} {g bw bh size : Nat} {l : List Thing} (h : IsAr w g bw bh size l) (k : Int) (v : Value) (xs : List Int) (hv : Rd w [g, bw, bh] v xs) (hk : 1 ≤ k) (hk' : k ≤ 9) (hm : xs.length ≤ 255) (hf : tot l + xs.length < size) :
    Calls Try.prog 10 #[.pointer (some ⟨g, 0, none⟩), .int .i64 k, v] w fun e w' =>
      e = .returned (.tuple #[.int .u64 ((tot l : Int) * 8 + 1), .int .i64 0]) ∧ IsAr w' g bw bh size (l ++ [(k, xs)]) ∧ Chg [g, bw, bh] w w' := by
  obtain ⟨A, c, rfl, hr⟩ := hv
  have t1 : decide (k < 1) = false := by simp; omega
  have t2 : decide (k > 9) = false := by simp; omega
  have t3 : decide ((xs.length : Int) > 255) = false := by simp; omega
  have hle := h.tot_le
  have hhi := h.hi
  have t4 : decide ((size : Int) - (tot l : Int) ≤ (xs.length : Int)) = false := by simp; omega
  have c0 : w.cell? ⟨g, 0, none⟩ = some (.slice (some ⟨bw, 0, none⟩) size size) := by rw [blk_cell h.pt]; rfl
  have c1 : w.cell? ⟨g, 1, none⟩ = some (.slice (some ⟨bh, 0, none⟩) size size) := by rw [blk_cell h.pt]; rfl
  have c2 : w.cell? ⟨g, 2, none⟩ = some (.int .i64 (tot l : Int)) := by rw [blk_cell h.pt]; rfl
  obtain ⟨zw, zw0, hbw⟩ := h.wd
  obtain ⟨zh, zh0, hbh⟩ := h.hd
  obtain ⟨uw, hcw⟩ : ∃ u, w.cell? ⟨bw, tot l, none⟩ = some u := by
    rw [blk_cell hbw]
    exact ⟨_, Array.getElem?_eq_getElem (by simp [nums, flatW_len]; omega)⟩
  obtain ⟨uh, hch⟩ : ∃ u, w.cell? ⟨bh, tot l, none⟩ = some u := by
    rw [blk_cell hbh]
    exact ⟨_, Array.getElem?_eq_getElem (by simp [bools, flatH_len]; omega)⟩
  have fw : w.frozen? ⟨bw, tot l, none⟩ = false := blk_frozen hbw _
  have fh : w.frozen? ⟨bh, tot l, none⟩ = false := blk_frozen hbh _
  have fg : w.frozen? ⟨g, 2, none⟩ = false := blk_frozen h.pt _
  have ne1 : g ≠ bw := blk_ne h.pt hbw (by decide)
  have ne2 : bh ≠ bw := blk_ne hbh hbw (by decide)
  have ne3 : g ≠ bh := blk_ne h.pt hbh (by decide)
  have b1 : Go.bits .or .i64 ((xs.length : Int) * 256) k = (xs.length : Int) * 256 + k := i64_or8 (by omega) (by omega) (by omega) (by omega)
  have b2 : IntKind.u64.wrap ((xs.length : Int) * 256 + k) = (xs.length : Int) * 256 + k := by rw [wrap_u64]; omega
  have b3 : decide ((tot l : Int) < (size : Int)) = true := by simp; omega
  have q1 : (nums .u64 (flatW l ++ zw)).toArray.setIfInBounds (tot l) (.int .u64 ((xs.length : Int) * 256 + k)) = (nums .u64 ((flatW l ++ zw).set (tot l) ((xs.length : Int) * 256 + k))).toArray := nums_set _ _ _ _
  have q2 : (bools (flatH l ++ List.replicate zh false)).toArray.setIfInBounds (tot l) (.bool true) = (bools ((flatH l ++ List.replicate zh false).set (tot l) true)).toArray := by simp [bools, List.map_set]
  have W1 := after_head (w := w) (uw := .int .u64 ((xs.length : Int) * 256 + k)) (uh := .bool true) h.pt hbw hbh (tot l) ne1 ne2 ne3
  rw [q1, q2] at W1
  have HW1 := Lib.hid W1
  clear hbw hbh q1 q2 W1
  go_enter Try.func10, Try.ntmps10
  go_wp2_with (first
    | (go_at_call 14; refine (used_calls h).mono ?_; rintro e w1 ⟨rfl, rfl⟩)
    | (go_at_call 24; refine (size_calls h).mono ?_; rintro e w1 ⟨rfl, rfl⟩))
  go_region
  go_wp2_with fail
  generalize ((w.setCell ⟨bw, tot l, none⟩ (.int .u64 ((xs.length : Int) * 256 + k))).setCell ⟨bh, tot l, none⟩ (.bool true)).drew = W1 at *
  clear c0 c1 c2 hcw hch fw fh fg
  obtain ⟨g1, g2, g3, ch1⟩ := HW1.out
  have c0 : W1.cell? ⟨g, 0, none⟩ = some (.slice (some ⟨bw, 0, none⟩) size size) := by rw [blk_cell g1]; rfl
  have c2 : W1.cell? ⟨g, 2, none⟩ = some (.int .i64 (tot l : Int)) := by rw [blk_cell g1]; rfl
  have fg : W1.frozen? ⟨g, 2, none⟩ = false := blk_frozen g1 _
  have hr1 : xs ≠ [] → ∃ b o, A = some ⟨b, o, none⟩ ∧ ∀ j x, xs[j]? = some x → W1.drew.cell? ⟨b, o + j, none⟩ = some (.int .u64 x) := by
    intro hx
    obtain ⟨b, o, h1, h2, h3⟩ := hr hx
    refine ⟨b, o, h1, fun j x hj => ?_⟩
    have := h3 j x hj
    rw [← this]
    exact World.cell?_of_block (ch1.block b (World.block_lt_of_cell? _ _ this) h2)
  have o1 : IntKind.i64.wrap ((tot l : Int) + 1) = (tot l : Int) + 1 := by rw [IntKind.wrap_i64]; omega
  have o2 : IntKind.i64.wrap ((xs.length : Int) + 1) = (xs.length : Int) + 1 := by rw [IntKind.wrap_i64]; omega
  have hFin := fun (W2 : World) (g4 : _) (ch2 : Chg [bw] W1.drew W2) (v : Int) (hv : v = (tot l : Int) + ((xs.length : Int) + 1)) => alloc_fin (size := size) h.ok h.lo h.hi zw0 zh0 hk hk' hm hf ne1 ne2 ne3 g1 g3 ch1 W2 g4 ch2 v hv
  have HF := Lib.hid hFin
  clear hFin
  by_cases hs : size = tot l + 1
  · subst hs
    obtain ⟨W2, hrun, g4, ch2⟩ := copy_run (W := W1.drew) (bw := bw) (n := tot l + 1) (c := c) (A := A) g2 rfl 0 (by omega) 0 (by simp [flatW_len]; omega)
      (some ⟨bw, 0, none⟩) (fun h => by omega) hr1 3
    have d0 : W2.cell? ⟨g, 2, none⟩ = some (.int .i64 (tot l : Int)) := by rw [blk_cell (ch2.at g1 (by simpa using ne1))]; rfl
    have fd : W2.frozen? ⟨g, 2, none⟩ = false := blk_frozen (ch2.at g1 (by simpa using ne1)) _
    have F := HF.out W2 g4 ch2
    have HF2 := Lib.hid F
    clear F g4 g1 g2 g3
    go_region
    all_goals
      go_wp2_with (go_at_call 25; refine (of_at _ _ (by omega) (by omega)).mono ?_; rintro e w1 ⟨rfl, rfl⟩)
      go_ret2
      exact ⟨rfl, HF2.out _ (by omega)⟩
  · obtain ⟨W2, hrun, g4, ch2⟩ := copy_run (W := W1.drew) (bw := bw) (n := tot l + 1) (c := c) (A := A) g2 rfl (size - (tot l + 1)) (by omega) (size - (tot l + 1)) (by simp [flatW_len]; omega)
      (some ⟨bw, tot l + 1, none⟩) (fun h => rfl) hr1 3
    have d0 : W2.cell? ⟨g, 2, none⟩ = some (.int .i64 (tot l : Int)) := by rw [blk_cell (ch2.at g1 (by simpa using ne1))]; rfl
    have fd : W2.frozen? ⟨g, 2, none⟩ = false := blk_frozen (ch2.at g1 (by simpa using ne1)) _
    have F := HF.out W2 g4 ch2
    have HF2 := Lib.hid F
    clear F g4 g1 g2 g3
    go_region
    all_goals
      go_wp2_with (go_at_call 25; refine (of_at _ _ (by omega) (by omega)).mono ?_; rintro e w1 ⟨rfl, rfl⟩)
      go_ret2
      exact ⟨rfl, HF2.out _ (by omega)⟩
end Go.Proofs.Ytlaipmakgicnfaa.Ar

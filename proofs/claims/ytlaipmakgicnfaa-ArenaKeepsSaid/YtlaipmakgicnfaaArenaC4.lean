/- Contracts of Set and New; each states its conditions. -/
import Derived.Test.YtlaipmakgicnfaaArenaC3
namespace Go.Proofs.Ytlaipmakgicnfaa.Ar
open Go Go.RowKit Go.Proofs.Ytlaipmakgicnfaa.Heap Go.Proofs.Ytlaipmakgicnfaa.Word
theorem nums_set (k : IntKind) (xs : List Int) (i : Nat) (v : Int) : (nums k xs).toArray.setIfInBounds i (.int k v) = (nums k (xs.set i v)).toArray := by
  simp [nums, List.map_set]
theorem new_bad (n : Int) (w : World) (hn : n < 1 ∨ 65536 < n) :
    Calls Try.prog 9 #[.int .i64 n] w fun e w' => e = .returned (.tuple #[.pointer none, .int .i64 1]) ∧ w = w' := by
  by_cases t0 : n < 1
  · have t1 : decide (n < 1) = true := by simpa using t0
    go_enter Try.func9, Try.ntmps9
    go_wp2
    all_goals
      go_ret2
      exact ⟨rfl, rfl⟩
  · have t1 : decide (n < 1) = false := by simpa using t0
    have t2 : decide (n > 65536) = true := by simp; omega
    go_enter Try.func9, Try.ntmps9
    go_wp2
    all_goals
      go_ret2
      exact ⟨rfl, rfl⟩
theorem infoW : (Try.prog.info? 31).map (fun i => (i.zero, i.size, i.bytes)) = some (some (.int .u64 0), 1, 8) := by kernel_rfl
theorem infoB : (Try.prog.info? 4).map (fun i => (i.zero, i.size, i.bytes)) = some (some (.bool false), 1, 1) := by kernel_rfl
theorem underWs : Try.prog.underlying 28 = some (.slice 31) := by kernel_rfl
theorem underBs : Try.prog.underlying 60 = some (.slice 4) := by kernel_rfl
theorem made_one (z : Value) (n : Nat) (hz : z.cells = #[z]) : madeCells z.cells (n * 1) = Array.replicate n z := by
  rw [hz]; unfold madeCells
  apply Array.ext
  · simp
  · intro i h1 h2
    simp [Nat.mod_one]
theorem makeWk (k : IntKind) (n : Nat) (hn : n ≤ 65536) (W : World) : (Instr.makeSlice 28 (.int k (n : Int)) (.int k (n : Int))).run Try.prog W =
    .ok (.slice (some ⟨W.heap.size, 0, none⟩) n n) (W.alloc (.cells (nums .u64 (List.replicate n 0)).toArray 31)) := by
  obtain ⟨i, hi, hz, hs, hb⟩ := info_parts infoW
  have := run_make W 28 31 i _ underWs hi hz k k n n (by omega) (Int.le_refl _) (by rw [hb]; omega) (by omega)
  rw [this, hs, Int.toNat_natCast, made_one _ _ rfl]
  simp [nums]
theorem makeW (n : Nat) (hn : n ≤ 65536) (W : World) : (Instr.makeSlice 28 (.int .i64 (n : Int)) (.int .i64 (n : Int))).run Try.prog W =
    .ok (.slice (some ⟨W.heap.size, 0, none⟩) n n) (W.alloc (.cells (nums .u64 (List.replicate n 0)).toArray 31)) := makeWk .i64 n hn W
theorem makeB (n : Nat) (hn : n ≤ 65536) (W : World) : (Instr.makeSlice 60 (.int .i64 (n : Int)) (.int .i64 (n : Int))).run Try.prog W =
    .ok (.slice (some ⟨W.heap.size, 0, none⟩) n n) (W.alloc (.cells (bools (List.replicate n false)).toArray 4)) := by
  obtain ⟨i, hi, hz, hs, hb⟩ := info_parts infoB
  have := run_make W 60 4 i _ underBs hi hz .i64 .i64 n n (by omega) (Int.le_refl _) (by rw [hb]; omega) (by omega)
  rw [this, hs, Int.toNat_natCast, made_one _ _ rfl]
  simp [bools]
theorem new_fin (w : World) (bw bh g n : Nat) (h1 : w.heap[g]? = some (.cells #[.slice (some ⟨bw, 0, none⟩) n n, .slice (some ⟨bh, 0, none⟩) n n, .int .i64 0] 62))
    (h2 : w.heap[bw]? = some (.cells (nums .u64 (List.replicate n 0)).toArray 31)) (h3 : w.heap[bh]? = some (.cells (bools (List.replicate n false)).toArray 4)) (hn : 1 ≤ n) (hn' : n ≤ 65536) :
    IsAr w g bw bh n [] :=
  ⟨h1, ⟨List.replicate n 0, by simp [tot], h2⟩, ⟨n, by simp [tot], h3⟩, fun _ h => (by cases h), hn, hn'⟩
theorem new_calls (n : Nat) (w : World) (hn : 1 ≤ n) (hn' : n ≤ 65536) :
    Calls Try.prog 9 #[.int .i64 n] w fun e w' => ∃ g bw bh, e = .returned (.tuple #[.pointer (some ⟨g, 0, none⟩), .int .i64 0]) ∧
      IsAr w' g bw bh n [] ∧ Chg [] w w' ∧ w.heap.size ≤ g ∧ w.heap.size ≤ bw ∧ w.heap.size ≤ bh := by
  have t1 : decide ((n : Int) < 1) = false := by simp; omega
  have t2 : decide ((n : Int) > 65536) = false := by simp; omega
  have m1 := makeW n hn'
  have m2 := makeB n hn'
  go_enter Try.func9, Try.ntmps9
  go_wp2
  go_region
  · go_wp2
    go_ret2
    refine ⟨_, _, _, rfl, new_fin _ w.heap.size (w.heap.size + 1) (w.heap.size + 1 + 1) n ?_ ?_ ?_ hn hn', ((((Chg.refl _ _).alloc _).alloc _).alloc _).drew, by omega, Nat.le_refl _, by omega⟩
    · exact blk_new (by simp)
    · exact blk_old (by simp <;> omega) (blk_old (by simp <;> omega) (blk_new rfl))
    · exact blk_old (by simp <;> omega) (blk_new (by simp))
  · go_wp2
    go_ret2
    refine ⟨_, _, _, rfl, new_fin _ (w.heap.size + 1) w.heap.size (w.heap.size + 1 + 1) n ?_ ?_ ?_ hn hn', ((((Chg.refl _ _).alloc _).alloc _).alloc _).drew, by omega, by omega, Nat.le_refl _⟩
    · exact blk_new (by simp)
    · exact blk_old (by simp <;> omega) (blk_new (by simp))
    · exact blk_old (by simp <;> omega) (blk_old (by simp <;> omega) (blk_new rfl))
end Go.Proofs.Ytlaipmakgicnfaa.Ar

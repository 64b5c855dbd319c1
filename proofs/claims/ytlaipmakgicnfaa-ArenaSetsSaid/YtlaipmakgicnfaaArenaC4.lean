/- Contracts of Set and New; each states its conditions. -/
import Derived.Test.YtlaipmakgicnfaaArenaC3
namespace Go.Proofs.Ytlaipmakgicnfaa.Ar
open Go Go.RowKit Go.Proofs.Ytlaipmakgicnfaa.Heap Go.Proofs.Ytlaipmakgicnfaa.Word
theorem set_nil (x i v : Int) (w : World) (h0 : 0 ≤ x) (h8 : x < 18446744073709551616) :
    Calls Try.prog 12 #[.pointer none, .int .u64 x, .int .i64 i, .int .u64 v] w fun e w' => e = .returned (.int .i64 2) ∧ w = w' := by
  go_enter Try.func12, Try.ntmps12
  go_wp2_with (go_at_call 26; refine (at_nil x i _ h0 h8).mono ?_; rintro e w1 ⟨rfl, rfl⟩)
  all_goals
    go_ret
    exact ⟨rfl, rfl⟩
theorem nums_set (k : IntKind) (xs : List Int) (i : Nat) (v : Int) : (nums k xs).toArray.setIfInBounds i (.int k v) = (nums k (xs.set i v)).toArray := by
  simp [nums, List.map_set]
theorem set_calls {w : World} {g bw bh size : Nat} {l : List Thing} (h : IsAr w g bw bh size l) (x i v : Int) (h0 : 0 ≤ x) (h8 : x < 18446744073709551616) :
    Calls Try.prog 12 #[.pointer (some ⟨g, 0, none⟩), .int .u64 x, .int .i64 i, .int .u64 v] w fun e w' =>
      e = .returned (.int .i64 (setA l x i v).2) ∧ IsAr w' g bw bh size (setA l x i v).1 ∧ Chg [bw] w w' := by
  unfold setA
  cases hp : place l x with
  | some o =>
    simp only []
    by_cases hi : 0 ≤ i ∧ i < o.2.length
    · rw [if_pos hi]
      have T := fun W (h : IsAr W g bw bh size l) => at_yes h x i h0 h8 o hp hi.1 hi.2
      have hl : look l (x / 8).toNat = some o := by
        unfold place at hp; split at hp
        · exact hp
        · cases hp
      have hlt := look_lt hl
      have hij : i.toNat < o.2.length := by omega
      obtain ⟨z, hz0, hz⟩ := h.wd
      have cw : w.cell? ⟨bw, (x / 8).toNat + 1 + i.toNat, none⟩ = some (.int .u64 (o.2.getD i.toNat 0)) := by
        rw [blk_cell hz, nums_get, List.getElem?_append_left (by rw [flatW_len]; omega), look_field hl _ (by omega), List.getD_eq_getElem?_getD]
        simp [List.getElem?_eq_getElem hij]
      have fw : w.frozen? ⟨bw, (x / 8).toNat + 1 + i.toNat, none⟩ = false := blk_frozen hz _
      have ne1 : g ≠ bw := blk_ne h.pt hz (by decide)
      obtain ⟨z', hz0', hz'⟩ := h.hd
      have ne2 : bh ≠ bw := blk_ne hz' hz (by decide)
      have fin : IsAr (w.setCell ⟨bw, (x / 8).toNat + 1 + i.toNat, none⟩ (.int .u64 v)) g bw bh size (setT l (x / 8).toNat i.toNat v) ∧ Chg [bw] w (w.setCell ⟨bw, (x / 8).toNat + 1 + i.toNat, none⟩ (.int .u64 v)) := by
        refine ⟨⟨?_, ⟨z, by rw [setT_tot]; exact hz0, ?_⟩, ⟨z', by rw [setT_tot]; exact hz0', ?_⟩, okT_setT h.ok _ _ _, h.lo, h.hi⟩, (Chg.refl _ _).set _ _ (.inl (by simp))⟩
        · rw [setT_tot]; exact blk_far h.pt ne1 _
        · rw [blk_set hz, nums_set, setT_W hl _ hij, List.set_append_left _ _ (by rw [flatW_len]; omega)]
        · rw [setT_H]; exact blk_far hz' ne2 _
      have Fin := Lib.hid fin
      clear fin hz hz' hz0 hz0'
      generalize o.2.getD i.toNat 0 = u at *
      generalize hn : (x / 8).toNat + 1 + i.toNat = n at *
      clear hp hl hlt hi hn
      go_enter Try.func12, Try.ntmps12
      go_wp2_with (go_at_call 26; refine (T _ h).mono ?_; rintro e w1 ⟨rfl, rfl⟩)
      all_goals
        go_ret
        exact ⟨rfl, Fin.out⟩
    · rw [if_neg hi]
      have T := fun W (h : IsAr W g bw bh size l) => at_out h x i h0 h8 o hp hi
      clear hp hi
      have Fin := Lib.hid (show IsAr w g bw bh size l ∧ Chg [bw] w w from ⟨h, Chg.refl _ _⟩)
      go_enter Try.func12, Try.ntmps12
      go_wp2_with (go_at_call 26; refine (T _ h).mono ?_; rintro e w1 ⟨rfl, rfl⟩)
      all_goals
        go_ret
        exact ⟨rfl, Fin.out⟩
  | none =>
    simp only []
    have T := fun W (h : IsAr W g bw bh size l) => at_no h x i h0 h8 hp
    clear hp
    have Fin := Lib.hid (show IsAr w g bw bh size l ∧ Chg [bw] w w from ⟨h, Chg.refl _ _⟩)
    go_enter Try.func12, Try.ntmps12
    go_wp2_with (go_at_call 26; refine (T _ h).mono ?_; rintro e w1 ⟨rfl, rfl⟩)
    all_goals
      go_ret
      exact ⟨rfl, Fin.out⟩
theorem new_bad (n : Int) (w : World) (hn : n < 1 ∨ 65536 < n) :
    Calls Try.prog 9 #[.int .i64 n] w fun e w' => e = .returned (.tuple #[.pointer none, .int .i64 1]) ∧ w = w' := by
  by_cases t0 : n < 1
  · have t1 : decide (n < 1) = true := by simpa using t0
    go_enter Try.func9, Try.ntmps9
    go_wp2
    all_goals
      go_ret2
      exact ⟨rfl, rfl⟩
  · have t1 : decide (n < 1) = false := by simpa using t0
    have t2 : decide (n > 65536) = true := by simp; omega
    go_enter Try.func9, Try.ntmps9
    go_wp2
    all_goals
      go_ret2
      exact ⟨rfl, rfl⟩
theorem infoW : (Try.prog.info? 31).map (fun i => (i.zero, i.size, i.bytes)) = some (some (.int .u64 0), 1, 8) := by kernel_rfl
theorem infoB : (Try.prog.info? 4).map (fun i => (i.zero, i.size, i.bytes)) = some (some (.bool false), 1, 1) := by kernel_rfl
theorem underWs : Try.prog.underlying 28 = some (.slice 31) := by kernel_rfl
theorem underBs : Try.prog.underlying 60 = some (.slice 4) := by kernel_rfl
theorem made_one (z : Value) (n : Nat) (hz : z.cells = #[z]) : madeCells z.cells (n * 1) = Array.replicate n z := by
  rw [hz]; unfold madeCells
  apply Array.ext
  · simp
  · intro i h1 h2
    simp [Nat.mod_one]
theorem makeWk (k : IntKind) (n : Nat) (hn : n ≤ 65536) (W : World) : (Instr.makeSlice 28 (.int k (n : Int)) (.int k (n : Int))).run Try.prog W =
    .ok (.slice (some ⟨W.heap.size, 0, none⟩) n n) (W.alloc (.cells (nums .u64 (List.replicate n 0)).toArray 31)) := by
  obtain ⟨i, hi, hz, hs, hb⟩ := info_parts infoW
  have := run_make W 28 31 i _ underWs hi hz k k n n (by omega) (Int.le_refl _) (by rw [hb]; omega) (by omega)
  rw [this, hs, Int.toNat_natCast, made_one _ _ rfl]
  simp [nums]
theorem makeW (n : Nat) (hn : n ≤ 65536) (W : World) : (Instr.makeSlice 28 (.int .i64 (n : Int)) (.int .i64 (n : Int))).run Try.prog W =
    .ok (.slice (some ⟨W.heap.size, 0, none⟩) n n) (W.alloc (.cells (nums .u64 (List.replicate n 0)).toArray 31)) := makeWk .i64 n hn W
theorem makeB (n : Nat) (hn : n ≤ 65536) (W : World) : (Instr.makeSlice 60 (.int .i64 (n : Int)) (.int .i64 (n : Int))).run Try.prog W =
    .ok (.slice (some ⟨W.heap.size, 0, none⟩) n n) (W.alloc (.cells (bools (List.replicate n false)).toArray 4)) := by
  obtain ⟨i, hi, hz, hs, hb⟩ := info_parts infoB
  have := run_make W 60 4 i _ underBs hi hz .i64 .i64 n n (by omega) (Int.le_refl _) (by rw [hb]; omega) (by omega)
  rw [this, hs, Int.toNat_natCast, made_one _ _ rfl]
  simp [bools]
theorem new_fin (w : World) (bw bh g n : Nat) (h1 : w.heap[g]? = some (.cells #[.slice (some ⟨bw, 0, none⟩) n n, .slice (some ⟨bh, 0, none⟩) n n, .int .i64 0] 62))
    (h2 : w.heap[bw]? = some (.cells (nums .u64 (List.replicate n 0)).toArray 31)) (h3 : w.heap[bh]? = some (.cells (bools (List.replicate n false)).toArray 4)) (hn : 1 ≤ n) (hn' : n ≤ 65536) :
    IsAr w g bw bh n [] :=
  ⟨h1, ⟨List.replicate n 0, by simp [tot], h2⟩, ⟨n, by simp [tot], h3⟩, fun _ h => (by cases h), hn, hn'⟩
theorem new_calls (n : Nat) (w : World) (hn : 1 ≤ n) (hn' : n ≤ 65536) :
    Calls Try.prog 9 #[.int .i64 n] w fun e w' => ∃ g bw bh, e = .returned (.tuple #[.pointer (some ⟨g, 0, none⟩), .int .i64 0]) ∧
      IsAr w' g bw bh n [] ∧ Chg [] w w' ∧ w.heap.size ≤ g ∧ w.heap.size ≤ bw ∧ w.heap.size ≤ bh := by
  have t1 : decide ((n : Int) < 1) = false := by simp; omega
  have t2 : decide ((n : Int) > 65536) = false := by simp; omega
  have m1 := makeW n hn'
  have m2 := makeB n hn'
  go_enter Try.func9, Try.ntmps9
  go_wp2
  go_region
  · go_wp2
    go_ret2
    refine ⟨_, _, _, rfl, new_fin _ w.heap.size (w.heap.size + 1) (w.heap.size + 1 + 1) n ?_ ?_ ?_ hn hn', ((((Chg.refl _ _).alloc _).alloc _).alloc _).drew, by omega, Nat.le_refl _, by omega⟩
    · exact blk_new (by simp)
    · exact blk_old (by simp <;> omega) (blk_old (by simp <;> omega) (blk_new rfl))
    · exact blk_old (by simp <;> omega) (blk_new (by simp))
  · go_wp2
    go_ret2
    refine ⟨_, _, _, rfl, new_fin _ (w.heap.size + 1) w.heap.size (w.heap.size + 1 + 1) n ?_ ?_ ?_ hn hn', ((((Chg.refl _ _).alloc _).alloc _).alloc _).drew, by omega, by omega, Nat.le_refl _⟩
    · exact blk_new (by simp)
    · exact blk_old (by simp <;> omega) (blk_new (by simp))
    · exact blk_old (by simp <;> omega) (blk_old (by simp <;> omega) (blk_new rfl))
end Go.Proofs.Ytlaipmakgicnfaa.Ar

/- What Set of an arena does, with its memory. -/
import Derived.Test.YtlaipmakgicnfaaArenaC4
namespace Go.Proofs.Ytlaipmakgicnfaa.Ar
open Go Go.RowKit Go.Proofs.Ytlaipmakgicnfaa.Heap Go.Proofs.Ytlaipmakgicnfaa.Word
theorem set_nil (x i v : Int) (w : World) (h0 : 0 ≤ x) (h8 : x < 18446744073709551616) :
    Calls Try.prog 12 #[.pointer none, .int .u64 x, .int .i64 i, .int .u64 v] w fun e w' => e = .returned (.int .i64 2) ∧ w = w' := by
  go_enter Try.func12, Try.ntmps12
  go_wp2_with (go_at_call 26; refine (at_nil x i _ h0 h8).mono ?_; rintro e w1 ⟨rfl, rfl⟩)
  all_goals
    go_ret
    exact ⟨rfl, rfl⟩
theorem set_calls {w : World} {g bw bh size : Nat} {l : List Thing} (h : IsAr w g bw bh size l) (x i v : Int) (h0 : 0 ≤ x) (h8 : x < 18446744073709551616) :
    Calls Try.prog 12 #[.pointer (some ⟨g, 0, none⟩), .int .u64 x, .int .i64 i, .int .u64 v] w fun e w' =>
      e = .returned (.int .i64 (setA l x i v).2) ∧ IsAr w' g bw bh size (setA l x i v).1 ∧ Chg [bw] w w' := by
  unfold setA
  cases hp : place l x with
  | some o =>
    simp only []
    by_cases hi : 0 ≤ i ∧ i < o.2.length
    · rw [if_pos hi]
      have T := fun W (h : IsAr W g bw bh size l) => at_yes h x i h0 h8 o hp hi.1 hi.2
      have hl : look l (x / 8).toNat = some o := by
        unfold place at hp; split at hp
        · exact hp
        · cases hp
      have hlt := look_lt hl
      have hij : i.toNat < o.2.length := by omega
      obtain ⟨z, hz0, hz⟩ := h.wd
      have cw : w.cell? ⟨bw, (x / 8).toNat + 1 + i.toNat, none⟩ = some (.int .u64 (o.2.getD i.toNat 0)) := by
        rw [blk_cell hz, nums_get, List.getElem?_append_left (by rw [flatW_len]; omega), look_field hl _ (by omega), List.getD_eq_getElem?_getD]
        simp [List.getElem?_eq_getElem hij]
      have fw : w.frozen? ⟨bw, (x / 8).toNat + 1 + i.toNat, none⟩ = false := blk_frozen hz _
      have ne1 : g ≠ bw := blk_ne h.pt hz (by decide)
      obtain ⟨z', hz0', hz'⟩ := h.hd
      have ne2 : bh ≠ bw := blk_ne hz' hz (by decide)
      have fin : IsAr (w.setCell ⟨bw, (x / 8).toNat + 1 + i.toNat, none⟩ (.int .u64 v)) g bw bh size (setT l (x / 8).toNat i.toNat v) ∧ Chg [bw] w (w.setCell ⟨bw, (x / 8).toNat + 1 + i.toNat, none⟩ (.int .u64 v)) := by
        refine ⟨⟨?_, ⟨z, by rw [setT_tot]; exact hz0, ?_⟩, ⟨z', by rw [setT_tot]; exact hz0', ?_⟩, okT_setT h.ok _ _ _, h.lo, h.hi⟩, (Chg.refl _ _).set _ _ (.inl (by simp))⟩
        · rw [setT_tot]; exact blk_far h.pt ne1 _
        · rw [blk_set hz, nums_set, setT_W hl _ hij, List.set_append_left _ _ (by rw [flatW_len]; omega)]
        · rw [setT_H]; exact blk_far hz' ne2 _
      have Fin := Lib.hid fin
      clear fin hz hz' hz0 hz0'
      generalize o.2.getD i.toNat 0 = u at *
      generalize hn : (x / 8).toNat + 1 + i.toNat = n at *
      clear hp hl hlt hi hn
      go_enter Try.func12, Try.ntmps12
      go_wp2_with (go_at_call 26; refine (T _ h).mono ?_; rintro e w1 ⟨rfl, rfl⟩)
      all_goals
        go_ret
        exact ⟨rfl, Fin.out⟩
    · rw [if_neg hi]
      have T := fun W (h : IsAr W g bw bh size l) => at_out h x i h0 h8 o hp hi
      clear hp hi
      have Fin := Lib.hid (show IsAr w g bw bh size l ∧ Chg [bw] w w from ⟨h, Chg.refl _ _⟩)
      go_enter Try.func12, Try.ntmps12
      go_wp2_with (go_at_call 26; refine (T _ h).mono ?_; rintro e w1 ⟨rfl, rfl⟩)
      all_goals
        go_ret
        exact ⟨rfl, Fin.out⟩
  | none =>
    simp only []
    have T := fun W (h : IsAr W g bw bh size l) => at_no h x i h0 h8 hp
    clear hp
    have Fin := Lib.hid (show IsAr w g bw bh size l ∧ Chg [bw] w w from ⟨h, Chg.refl _ _⟩)
    go_enter Try.func12, Try.ntmps12
    go_wp2_with (go_at_call 26; refine (T _ h).mono ?_; rintro e w1 ⟨rfl, rfl⟩)
    all_goals
      go_ret
      exact ⟨rfl, Fin.out⟩
end Go.Proofs.Ytlaipmakgicnfaa.Ar

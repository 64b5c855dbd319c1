/- Contracts of prim.Do at words that lie ready, and the examples at the head of the laws; each states its conditions. -/
import Derived.Test.YtoofnpecofcjjaaPrim2
namespace Go.Proofs.Ytoofnpecofcjjaa.Prim
open Go Go.RowKit Go.Proofs.Ytoofnpecofcjjaa.Heap Go.Proofs.Ytoofnpecofcjjaa.Word Go.Proofs.Ytoofnpecofcjjaa.Own Go.Proofs.Ytoofnpecofcjjaa.Ar Go.Proofs.Ytoofnpecofcjjaa.Pure
/-- the world in which two words, or one, lie ready for prim.Do -/
abbrev w2 (w : World) (x y : Int) : World := w.alloc (.cells #[.int .u64 x, .int .u64 y] 36)
abbrev w1 (w : World) (x : Int) : World := w.alloc (.cells #[.int .u64 x] 36)
theorem w2x (w : World) (x y : Int) : (w2 w x y).cell? ⟨w.heap.size, 0, none⟩ = some (.int .u64 x) := by rw [blk_cell (blk_new rfl)]; rfl
theorem w2y (w : World) (x y : Int) : (w2 w x y).cell? ⟨w.heap.size, 0 + 1, none⟩ = some (.int .u64 y) := by rw [blk_cell (blk_new rfl)]; rfl
theorem w1x (w : World) (x : Int) : (w1 w x).cell? ⟨w.heap.size, 0, none⟩ = some (.int .u64 x) := by rw [blk_cell (blk_new rfl)]; rfl
def okW (x : Int) : Prop := 0 ≤ x ∧ x < 18446744073709551616
instance (x : Int) : Decidable (okW x) := inferInstanceAs (Decidable (0 ≤ x ∧ x < 18446744073709551616))
theorem new_far {w : World} {g bw bh size : Nat} {l : List Thing} (h : IsAr w g bw bh size l) : w.heap.size ∉ [g, bw, bh] := fun hm => Nat.lt_irrefl _ (h.lt _ hm)
theorem do_cons {w : World} {g bw bh size : Nat} {l : List Thing} (h : IsAr w g bw bh size l) (x y : Int) (hx : okW x) (hy : okW y) (hf : tot l + 2 < size) (l' : List Thing) (hl : l ++ [(1, [x, y])] = l') (p : Int) (hp : (tot l : Int) * 8 + 1 = p) :
    Calls Try.prog 14 #[.pointer (some ⟨g, 0, none⟩), .int .i64 12, .slice (some ⟨w.heap.size, 0, none⟩) 2 2] (w2 w x y) fun e w' =>
      e = .returned (.tuple #[.int .u64 p, .int .i64 0]) ∧ IsAr w' g bw bh size l' ∧ Chg [g, bw, bh] w w' := by
  subst hl hp
  have hc := (Chg.refl [] w).alloc (.cells #[.int .u64 x, .int .u64 y] 36)
  have e : twoA l size 12 x y = (l ++ [(1, [x, y])], (tot l : Int) * 8 + 1, 0) := by
    show allocA l size 1 [x, y] = _
    unfold allocA
    rw [if_neg (by simp), if_neg (by simp; omega)]
  have H := do_two (h.sub hc) 12 x y hx.1 hx.2 hy.1 hy.2 w.heap.size 0 2 (w2x w x y) (w2y w x y) (new_far h)
  rw [e] at H
  exact H.mono fun e w' ⟨h1, h2, h3⟩ => ⟨h1, h2, (hc.mono (by simp)).same h3⟩
theorem do_full {w : World} {g bw bh size : Nat} {l : List Thing} (h : IsAr w g bw bh size l) (x y : Int) (hx : okW x) (hy : okW y) (hf : size ≤ tot l + 2) :
    Calls Try.prog 14 #[.pointer (some ⟨g, 0, none⟩), .int .i64 12, .slice (some ⟨w.heap.size, 0, none⟩) 2 2] (w2 w x y) fun e w' =>
      e = .returned (.tuple #[.int .u64 0, .int .i64 20]) ∧ IsAr w' g bw bh size l ∧ Chg [g, bw, bh] w w' := by
  have hc := (Chg.refl [] w).alloc (.cells #[.int .u64 x, .int .u64 y] 36)
  have e : twoA l size 12 x y = (l, 0, 20) := by
    show allocA l size 1 [x, y] = _
    unfold allocA
    rw [if_neg (by simp), if_pos (by simpa using hf)]
  have H := do_two (h.sub hc) 12 x y hx.1 hx.2 hy.1 hy.2 w.heap.size 0 2 (w2x w x y) (w2y w x y) (new_far h)
  rw [e] at H
  exact H.mono fun e w' ⟨h1, h2, h3⟩ => ⟨h1, h2, (hc.mono (by simp)).same h3⟩
theorem do_odd {w : World} {g bw bh size : Nat} {l : List Thing} (h : IsAr w g bw bh size l) (op x y : Int) (hx : okW x) (hy : okW y) (ho : op < 1 ∨ 8 < op) (h12 : op ≠ 12) :
    Calls Try.prog 14 #[.pointer (some ⟨g, 0, none⟩), .int .i64 op, .slice (some ⟨w.heap.size, 0, none⟩) 2 2] (w2 w x y) fun e w' =>
      e = .returned (.tuple #[.int .u64 0, .int .i64 1]) ∧ IsAr w' g bw bh size l ∧ Chg [g, bw, bh] w w' := by
  have hc := (Chg.refl [] w).alloc (.cells #[.int .u64 x, .int .u64 y] 36)
  have e : twoA l size op x y = (l, 0, 1) := by
    unfold twoA
    rw [if_neg (by omega), if_neg (by omega), if_neg h12]
  have H := do_two (h.sub hc) op x y hx.1 hx.2 hy.1 hy.2 w.heap.size 0 2 (w2x w x y) (w2y w x y) (new_far h)
  rw [e] at H
  exact H.mono fun e w' ⟨h1, h2, h3⟩ => ⟨h1, h2, (hc.mono (by simp)).same h3⟩
theorem do_same {w : World} {g bw bh size : Nat} {l : List Thing} (h : IsAr w g bw bh size l) (x y : Int) (hx : okW x) (hy : okW y) (v : Int) (hv : boolP (x == y) = v) :
    Calls Try.prog 14 #[.pointer (some ⟨g, 0, none⟩), .int .i64 8, .slice (some ⟨w.heap.size, 0, none⟩) 2 2] (w2 w x y) fun e w' =>
      e = .returned (.tuple #[.int .u64 v, .int .i64 0]) ∧ IsAr w' g bw bh size l ∧ Chg [g, bw, bh] w w' := by
  subst hv
  have hc := (Chg.refl [] w).alloc (.cells #[.int .u64 x, .int .u64 y] 36)
  have H := do_two (h.sub hc) 8 x y hx.1 hx.2 hy.1 hy.2 w.heap.size 0 2 (w2x w x y) (w2y w x y) (new_far h)
  rw [show twoA l size 8 x y = (l, boolP (x == y), 0) from rfl] at H
  exact H.mono fun e w' ⟨h1, h2, h3⟩ => ⟨h1, h2, (hc.mono (by simp)).same h3⟩
theorem do_sum {w : World} (p : Value) (op x y : Int) (h1 : 1 ≤ op) (h7 : op ≤ 7) (hx : okW x) (hy : okW y) :
    Calls Try.prog 14 #[p, .int .i64 op, .slice (some ⟨w.heap.size, 0, none⟩) 2 2] (w2 w x y) fun e w' =>
      e = .returned (.tuple #[.int .u64 (doP (signP op) x y).1, .int .i64 (doP (signP op) x y).2]) ∧ Chg [] w w' := by
  have hc := (Chg.refl [] w).alloc (.cells #[.int .u64 x, .int .u64 y] 36)
  exact (do_num p op x y _ h1 h7 hx.1 hx.2 hy.1 hy.2 w.heap.size 0 2 (w2x w x y) (w2y w x y)).mono fun e w' ⟨h1, h2⟩ => ⟨h1, hc.same h2⟩
theorem do_ask {w : World} {g bw bh size : Nat} {l : List Thing} (h : IsAr w g bw bh size l) (op x : Int) (hx : okW x) (r : Int × Int) (hr : oneA l op x = r) :
    Calls Try.prog 14 #[.pointer (some ⟨g, 0, none⟩), .int .i64 op, .slice (some ⟨w.heap.size, 0, none⟩) 1 1] (w1 w x) fun e w' =>
      e = .returned (.tuple #[.int .u64 r.1, .int .i64 r.2]) ∧ IsAr w' g bw bh size l ∧ Chg [] w w' := by
  subst hr
  have hc := (Chg.refl [] w).alloc (.cells #[.int .u64 x] 36)
  exact (do_one (h.sub hc) op x hx.1 hx.2 w.heap.size 0 1 (w1x w x)).mono fun e w' ⟨h1, h2, h3⟩ => ⟨h1, h2, hc.same h3⟩
set_option maxHeartbeats 1000000 in
theorem shown_calls (w : World) : Calls Try.prog 9 #[] w fun e w' => e = .returned (.bool true) ∧ Chg [] w w' := by
  have ht0 : tot [] = 0 := rfl
  go_enter Try.func9, Try.ntmps9
  go_wp2_with fail
  refine (new_calls 9 _ (by decide) (by decide)).mono ?_
  rintro e w1 ⟨g, bw, bh, rfl, ha, hc1, l1, l2, l3⟩
  go_wp2_with fail
  refine (do_cons ha 8 2 (by decide) (by decide) (by decide) [(1, [8, 2])] rfl 1 rfl).mono ?_
  rintro e w2 ⟨rfl, ha2, hc2⟩
  go_wp2_with fail
  refine (do_ask ha2 13 1 (by decide) (8, 0) (by decide)).mono ?_
  rintro e w3 ⟨rfl, ha3, hc3⟩
  go_wp2_with fail
  go_ret
  exact ⟨rfl, (hc1.trans (hc2.sub hc3) (fun b hb => .inr (by simp only [List.mem_cons, List.not_mem_nil, or_false] at hb; rcases hb with rfl | rfl | rfl <;> assumption)))⟩
end Go.Proofs.Ytoofnpecofcjjaa.Prim

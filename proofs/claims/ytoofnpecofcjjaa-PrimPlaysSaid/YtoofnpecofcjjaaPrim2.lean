/- Contracts of prim.two and prim.Do, walked; each states its conditions. -/
import Derived.Test.YtoofnpecofcjjaaPrim
import Derived.Test.YtoofnpecofcjjaaAllocAny
namespace Go.Proofs.Ytoofnpecofcjjaa.Prim
open Go Go.RowKit Go.Proofs.Ytoofnpecofcjjaa.Heap Go.Proofs.Ytoofnpecofcjjaa.Word Go.Proofs.Ytoofnpecofcjjaa.Own Go.Proofs.Ytoofnpecofcjjaa.Ar Go.Proofs.Ytoofnpecofcjjaa.Pure
/-- the sign of what is done to numbers -/
def signP (op : Int) : Int := if op = 1 then 43 else if op = 2 then 45 else if op = 3 then 42 else if op = 4 then 47 else if op = 5 then 37 else if op = 6 then 60 else 61
def twoA (l : List Thing) (size : Nat) (op x y : Int) : List Thing × Int × Int :=
  if 1 ≤ op ∧ op ≤ 7 then (l, doP (signP op) x y) else if op = 8 then (l, boolP (x == y), 0) else if op = 12 then allocA l size 1 [x, y] else (l, 0, 1)
theorem two_1 (p : Value) (x y : Int) (w : World) (h0 : 0 ≤ x) (h8 : x < 18446744073709551616) (k0 : 0 ≤ y) (k8 : y < 18446744073709551616) :
    Calls Try.prog 22 #[p, .int .i64 1, .int .u64 x, .int .u64 y] w fun e w' => e = .returned (.tuple #[.int .u64 (doP (signP 1) x y).1, .int .i64 (doP (signP 1) x y).2]) ∧ Below w.heap.size w w' := by
  go_enter Try.func22, Try.ntmps22
  go_wp2_with fail
  refine (c_Do (signP 1) x y _ h0 h8 k0 k8).mono ?_
  rintro e w1 ⟨rfl, hb⟩
  go_wp2_with fail
  go_ret2
  exact ⟨rfl, hb⟩
theorem two_2 (p : Value) (x y : Int) (w : World) (h0 : 0 ≤ x) (h8 : x < 18446744073709551616) (k0 : 0 ≤ y) (k8 : y < 18446744073709551616) :
    Calls Try.prog 22 #[p, .int .i64 2, .int .u64 x, .int .u64 y] w fun e w' => e = .returned (.tuple #[.int .u64 (doP (signP 2) x y).1, .int .i64 (doP (signP 2) x y).2]) ∧ Below w.heap.size w w' := by
  go_enter Try.func22, Try.ntmps22
  go_wp2_with fail
  refine (c_Do (signP 2) x y _ h0 h8 k0 k8).mono ?_
  rintro e w1 ⟨rfl, hb⟩
  go_wp2_with fail
  go_ret2
  exact ⟨rfl, hb⟩
theorem two_3 (p : Value) (x y : Int) (w : World) (h0 : 0 ≤ x) (h8 : x < 18446744073709551616) (k0 : 0 ≤ y) (k8 : y < 18446744073709551616) :
    Calls Try.prog 22 #[p, .int .i64 3, .int .u64 x, .int .u64 y] w fun e w' => e = .returned (.tuple #[.int .u64 (doP (signP 3) x y).1, .int .i64 (doP (signP 3) x y).2]) ∧ Below w.heap.size w w' := by
  go_enter Try.func22, Try.ntmps22
  go_wp2_with fail
  refine (c_Do (signP 3) x y _ h0 h8 k0 k8).mono ?_
  rintro e w1 ⟨rfl, hb⟩
  go_wp2_with fail
  go_ret2
  exact ⟨rfl, hb⟩
theorem two_4 (p : Value) (x y : Int) (w : World) (h0 : 0 ≤ x) (h8 : x < 18446744073709551616) (k0 : 0 ≤ y) (k8 : y < 18446744073709551616) :
    Calls Try.prog 22 #[p, .int .i64 4, .int .u64 x, .int .u64 y] w fun e w' => e = .returned (.tuple #[.int .u64 (doP (signP 4) x y).1, .int .i64 (doP (signP 4) x y).2]) ∧ Below w.heap.size w w' := by
  go_enter Try.func22, Try.ntmps22
  go_wp2_with fail
  refine (c_Do (signP 4) x y _ h0 h8 k0 k8).mono ?_
  rintro e w1 ⟨rfl, hb⟩
  go_wp2_with fail
  go_ret2
  exact ⟨rfl, hb⟩
theorem two_5 (p : Value) (x y : Int) (w : World) (h0 : 0 ≤ x) (h8 : x < 18446744073709551616) (k0 : 0 ≤ y) (k8 : y < 18446744073709551616) :
    Calls Try.prog 22 #[p, .int .i64 5, .int .u64 x, .int .u64 y] w fun e w' => e = .returned (.tuple #[.int .u64 (doP (signP 5) x y).1, .int .i64 (doP (signP 5) x y).2]) ∧ Below w.heap.size w w' := by
  go_enter Try.func22, Try.ntmps22
  go_wp2_with fail
  refine (c_Do (signP 5) x y _ h0 h8 k0 k8).mono ?_
  rintro e w1 ⟨rfl, hb⟩
  go_wp2_with fail
  go_ret2
  exact ⟨rfl, hb⟩
theorem two_6 (p : Value) (x y : Int) (w : World) (h0 : 0 ≤ x) (h8 : x < 18446744073709551616) (k0 : 0 ≤ y) (k8 : y < 18446744073709551616) :
    Calls Try.prog 22 #[p, .int .i64 6, .int .u64 x, .int .u64 y] w fun e w' => e = .returned (.tuple #[.int .u64 (doP (signP 6) x y).1, .int .i64 (doP (signP 6) x y).2]) ∧ Below w.heap.size w w' := by
  go_enter Try.func22, Try.ntmps22
  go_wp2_with fail
  refine (c_Do (signP 6) x y _ h0 h8 k0 k8).mono ?_
  rintro e w1 ⟨rfl, hb⟩
  go_wp2_with fail
  go_ret2
  exact ⟨rfl, hb⟩
theorem two_7 (p : Value) (x y : Int) (w : World) (h0 : 0 ≤ x) (h8 : x < 18446744073709551616) (k0 : 0 ≤ y) (k8 : y < 18446744073709551616) :
    Calls Try.prog 22 #[p, .int .i64 7, .int .u64 x, .int .u64 y] w fun e w' => e = .returned (.tuple #[.int .u64 (doP (signP 7) x y).1, .int .i64 (doP (signP 7) x y).2]) ∧ Below w.heap.size w w' := by
  go_enter Try.func22, Try.ntmps22
  go_wp2_with fail
  refine (c_Do (signP 7) x y _ h0 h8 k0 k8).mono ?_
  rintro e w1 ⟨rfl, hb⟩
  go_wp2_with fail
  go_ret2
  exact ⟨rfl, hb⟩
theorem two_num (p : Value) (op x y : Int) (w : World) (h1 : 1 ≤ op) (h7 : op ≤ 7) (h0 : 0 ≤ x) (h8 : x < 18446744073709551616) (k0 : 0 ≤ y) (k8 : y < 18446744073709551616) :
    Calls Try.prog 22 #[p, .int .i64 op, .int .u64 x, .int .u64 y] w fun e w' => e = .returned (.tuple #[.int .u64 (doP (signP op) x y).1, .int .i64 (doP (signP op) x y).2]) ∧ Below w.heap.size w w' := by
  rcases (show op = 1 ∨ op = 2 ∨ op = 3 ∨ op = 4 ∨ op = 5 ∨ op = 6 ∨ op = 7 by omega) with rfl | rfl | rfl | rfl | rfl | rfl | rfl
  · exact two_1 p x y w h0 h8 k0 k8
  · exact two_2 p x y w h0 h8 k0 k8
  · exact two_3 p x y w h0 h8 k0 k8
  · exact two_4 p x y w h0 h8 k0 k8
  · exact two_5 p x y w h0 h8 k0 k8
  · exact two_6 p x y w h0 h8 k0 k8
  · exact two_7 p x y w h0 h8 k0 k8
theorem two_same (p : Value) (x y : Int) (w : World) :
    Calls Try.prog 22 #[p, .int .i64 8, .int .u64 x, .int .u64 y] w fun e w' => e = .returned (.tuple #[.int .u64 (boolP (x == y)), .int .i64 0]) ∧ w = w' := by
  go_enter Try.func22, Try.ntmps22
  go_wp2_with fail
  refine (bool_calls _ _).mono ?_
  rintro e w1 ⟨rfl, rfl⟩
  go_wp2_with fail
  go_ret2
  exact ⟨rfl, rfl⟩
theorem two_none (p : Value) (op x y : Int) (w : World) (h : op < 1 ∨ 8 < op) (h12 : op ≠ 12) :
    Calls Try.prog 22 #[p, .int .i64 op, .int .u64 x, .int .u64 y] w fun e w' => e = .returned (.tuple #[.int .u64 0, .int .i64 1]) ∧ w = w' := by
  have t1 : (op == 8) = false := by simp; omega
  have t2 : (op == 12) = false := by simpa using h12
  rcases h with h | h
  · have t3 : decide (op ≥ 1) = false := by simp; omega
    clear h h12
    go_enter Try.func22, Try.ntmps22
    go_wp2_with fail
    go_ret2
    exact ⟨rfl, rfl⟩
  · have t3 : decide (op ≥ 1) = true := by simp; omega
    have t4 : decide (op ≤ 7) = false := by simp; omega
    clear h h12
    go_enter Try.func22, Try.ntmps22
    go_wp2_with fail
    go_ret2
    exact ⟨rfl, rfl⟩
section
variable {w : World} {g bw bh size : Nat} {l : List Thing} (h : IsAr w g bw bh size l) (x y : Int)
include h
set_option maxHeartbeats 1000000 in
theorem two_cons : Calls Try.prog 22 #[.pointer (some ⟨g, 0, none⟩), .int .i64 12, .int .u64 x, .int .u64 y] w fun e w' =>
    e = .returned (.tuple #[.int .u64 (allocA l size 1 [x, y]).2.1, .int .i64 (allocA l size 1 [x, y]).2.2]) ∧ IsAr w' g bw bh size (allocA l size 1 [x, y]).1 ∧ Chg [g, bw, bh] w w' := by
  have hc := (Chg.refl [] w).alloc (.cells #[.int .u64 x, .int .u64 y] 36)
  have hA := h.sub hc
  by_cases hf : size ≤ tot l + 2
  · have e : allocA l size 1 [x, y] = (l, 0, 20) := by
      unfold allocA
      rw [if_neg (by simp), if_pos (by simpa using hf)]
    rw [e]
    go_enter Try.func22, Try.ntmps22
    go_wp2_with fail
    refine (alloc_full hA 1 _ 2 _ (by decide) (by decide) (by decide) hf).mono ?_
    rintro e w1 ⟨rfl, rfl⟩
    go_wp2_with fail
    go_ret2
    exact ⟨rfl, hA, hc.mono (by simp)⟩
  · have e : allocA l size 1 [x, y] = (l ++ [(1, [x, y])], (tot l : Int) * 8 + 1, 0) := by
      unfold allocA
      rw [if_neg (by simp), if_neg (by simpa using hf)]
    rw [e]
    go_enter Try.func22, Try.ntmps22
    go_wp2_with fail
    refine (alloc_calls hA 1 _ [x, y] (rd_new [x, y] _ _ rfl h.lt _ 2 _ rfl rfl) (by decide) (by decide) (by simp) (by simp; omega)).mono ?_
    rintro e w1 ⟨rfl, hA1, hc1⟩
    go_wp2_with fail
    go_ret2
    exact ⟨rfl, hA1, (hc.mono (by simp)).same hc1⟩
theorem two_calls (op : Int) (h0 : 0 ≤ x) (h8 : x < 18446744073709551616) (k0 : 0 ≤ y) (k8 : y < 18446744073709551616) :
    Calls Try.prog 22 #[.pointer (some ⟨g, 0, none⟩), .int .i64 op, .int .u64 x, .int .u64 y] w fun e w' =>
    e = .returned (.tuple #[.int .u64 (twoA l size op x y).2.1, .int .i64 (twoA l size op x y).2.2]) ∧ IsAr w' g bw bh size (twoA l size op x y).1 ∧ Chg [g, bw, bh] w w' := by
  by_cases h1 : 1 ≤ op ∧ op ≤ 7
  · rw [show twoA l size op x y = (l, doP (signP op) x y) by unfold twoA; rw [if_pos h1]]
    refine (two_num _ op x y w h1.1 h1.2 h0 h8 k0 k8).mono ?_
    rintro e w' ⟨rfl, hb⟩
    exact ⟨rfl, h.sub (Chg.of_below hb), Chg.of_below hb⟩
  · by_cases h2 : op = 8
    · subst h2
      rw [show twoA l size 8 x y = (l, boolP (x == y), 0) from rfl]
      refine (two_same _ x y w).mono ?_
      rintro e w' ⟨rfl, rfl⟩
      exact ⟨rfl, h, Chg.refl _ _⟩
    · by_cases h3 : op = 12
      · subst h3
        rw [show twoA l size 12 x y = allocA l size 1 [x, y] from rfl]
        exact two_cons h x y
      · rw [show twoA l size op x y = (l, 0, 1) by unfold twoA; rw [if_neg h1, if_neg h2, if_neg h3]]
        refine (two_none _ op x y w (by omega) h3).mono ?_
        rintro e w' ⟨rfl, rfl⟩
        exact ⟨rfl, h, Chg.refl _ _⟩
end
/-- what comes of words -/
def primA (l : List Thing) (size : Nat) (op : Int) (xs : List Int) : List Thing × Int × Int := match xs with
  | [x] => (l, oneA l op x)
  | [x, y] => twoA l size op x y
  | _ => (l, 0, 1)
theorem do_one {w : World} {g bw bh size : Nat} {l : List Thing} (h : IsAr w g bw bh size l) (op x : Int) (h0 : 0 ≤ x) (h8 : x < 18446744073709551616) (b o c : Nat) (hx : w.cell? ⟨b, o, none⟩ = some (.int .u64 x)) :
    Calls Try.prog 14 #[.pointer (some ⟨g, 0, none⟩), .int .i64 op, .slice (some ⟨b, o, none⟩) 1 c] w fun e w' =>
    e = .returned (.tuple #[.int .u64 (oneA l op x).1, .int .i64 (oneA l op x).2]) ∧ IsAr w' g bw bh size l ∧ Chg [] w w' := by
  go_enter Try.func14, Try.ntmps14
  go_wp2_with fail
  refine (one_calls h x h0 h8 op).mono ?_
  rintro e w1 ⟨rfl, hA, hc⟩
  go_wp2_with fail
  go_ret2
  exact ⟨rfl, hA, hc⟩
theorem do_two {w : World} {g bw bh size : Nat} {l : List Thing} (h : IsAr w g bw bh size l) (op x y : Int) (h0 : 0 ≤ x) (h8 : x < 18446744073709551616) (k0 : 0 ≤ y) (k8 : y < 18446744073709551616) (b o c : Nat)
    (hx : w.cell? ⟨b, o, none⟩ = some (.int .u64 x)) (hy : w.cell? ⟨b, o + 1, none⟩ = some (.int .u64 y)) (hb : b ∉ [g, bw, bh]) :
    Calls Try.prog 14 #[.pointer (some ⟨g, 0, none⟩), .int .i64 op, .slice (some ⟨b, o, none⟩) 2 c] w fun e w' =>
    e = .returned (.tuple #[.int .u64 (twoA l size op x y).2.1, .int .i64 (twoA l size op x y).2.2]) ∧ IsAr w' g bw bh size (twoA l size op x y).1 ∧ Chg [g, bw, bh] w w' := by
  have hW := fun w' (q : IsAr w' g bw bh size l) => two_calls q x y op h0 h8 k0 k8
  go_enter Try.func14, Try.ntmps14
  go_upto_region 5 with fail
  go_region_held3 (fun w' => w'.cell? ⟨b, o, none⟩ = some (.int .u64 x) ∧ w'.cell? ⟨b, o + 1, none⟩ = some (.int .u64 y))
    (first | go_keep | exact ⟨Chg.cell (by assumption) hx hb, Chg.cell (by assumption) hy hb⟩)
    ((go_at_call 22; refine (hW _ (by first | exact h | exact h.drew | exact h.drewN _)).mono ?_; rintro e w1 ⟨rfl, hA, hc0⟩; have hc := ((Chg.refl [g, bw, bh] w).draw 1).same hc0; clear hc0))
  all_goals go_wp2_with fail
  all_goals go_ret2
  all_goals exact ⟨rfl, hA, hc⟩
theorem do_num (p : Value) (op x y : Int) (w : World) (h1 : 1 ≤ op) (h7 : op ≤ 7) (h0 : 0 ≤ x) (h8 : x < 18446744073709551616) (k0 : 0 ≤ y) (k8 : y < 18446744073709551616) (b o c : Nat)
    (hx : w.cell? ⟨b, o, none⟩ = some (.int .u64 x)) (hy : w.cell? ⟨b, o + 1, none⟩ = some (.int .u64 y)) :
    Calls Try.prog 14 #[p, .int .i64 op, .slice (some ⟨b, o, none⟩) 2 c] w fun e w' =>
    e = .returned (.tuple #[.int .u64 (doP (signP op) x y).1, .int .i64 (doP (signP op) x y).2]) ∧ Chg [] w w' := by
  have hW := fun w' => two_num p op x y w' h1 h7 h0 h8 k0 k8
  go_enter Try.func14, Try.ntmps14
  go_upto_region 5 with fail
  go_region_held3 (fun w' => w'.cell? ⟨b, o, none⟩ = some (.int .u64 x) ∧ w'.cell? ⟨b, o + 1, none⟩ = some (.int .u64 y))
    (first | go_keep | exact ⟨Chg.cell (by assumption) hx (by simp), Chg.cell (by assumption) hy (by simp)⟩)
    ((go_at_call 22; refine (hW _).mono ?_; rintro e w1 ⟨rfl, hb⟩; have hc := ((Chg.refl [] w).draw 1).same (Chg.of_below hb); clear hb))
  all_goals go_wp2_with fail
  all_goals go_ret2
  all_goals exact ⟨rfl, hc⟩
theorem do_many (p : Value) (op : Int) (A : Option Addr) (m c : Nat) (w : World) (h1 : m ≠ 1) (h2 : m ≠ 2) :
    Calls Try.prog 14 #[p, .int .i64 op, .slice A m c] w fun e w' => e = .returned (.tuple #[.int .u64 0, .int .i64 1]) ∧ w = w' := by
  have t1 : ((m : Int) == 1) = false := by simp; omega
  have t2 : ((m : Int) == 2) = false := by simp; omega
  clear h1 h2
  go_enter Try.func14, Try.ntmps14
  go_wp2_with fail
  go_ret2
  exact ⟨rfl, rfl⟩
end Go.Proofs.Ytoofnpecofcjjaa.Prim

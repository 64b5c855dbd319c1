import Derived.Test.YtoofnpecofcjjaaPrim3
import Derived.Test.YtoofnpecofcjjaaRefK
import Derived.Test.YtoofnpecofcjjaaRefG
import Derived.Test.YtoofnpecofcjjaaRefWordDo
namespace Go.Proofs.Ytoofnpecofcjjaa.Prim
open Go Go.RowKit Go.Proofs.Ytoofnpecofcjjaa.Heap Go.Proofs.Ytoofnpecofcjjaa.Word Go.Proofs.Ytoofnpecofcjjaa.Own Go.Proofs.Ytoofnpecofcjjaa.Ar Go.Proofs.Ytoofnpecofcjjaa.Pure Go.Proofs.Ytoofnpecofcjjaa.Rf
/-- how many words it is done to -/
def manyP (op : Int) : Int := if (9 ≤ op ∧ op ≤ 11) ∨ 13 ≤ op then 1 else 2
theorem many_calls (op m : Int) (w : World) (hm : manyP op = m) : Calls Try.prog 23 #[.int .i64 op] w fun e w' => e = .returned (.int .i64 m) ∧ w = w' := by
  unfold manyP at hm
  by_cases h1 : 9 ≤ op
  · have t1 : decide (op ≥ 9) = true := by simpa using h1
    by_cases h2 : op ≤ 11
    · have t2 : decide (op ≤ 11) = true := by simpa using h2
      rw [if_pos (.inl ⟨h1, h2⟩)] at hm
      subst hm
      clear h1 h2
      go_enter Try.func23, Try.ntmps23
      go_wp2_with fail
      go_ret
      exact ⟨rfl, rfl⟩
    · have t2 : decide (op ≤ 11) = false := by simp; omega
      by_cases h3 : 13 ≤ op
      · have t3 : decide (op ≥ 13) = true := by simpa using h3
        rw [if_pos (.inr h3)] at hm
        subst hm
        clear h1 h2 h3
        go_enter Try.func23, Try.ntmps23
        go_wp2_with fail
        go_ret
        exact ⟨rfl, rfl⟩
      · have t3 : decide (op ≥ 13) = false := by simp; omega
        rw [if_neg (by omega)] at hm
        subst hm
        clear h1 h2 h3
        go_enter Try.func23, Try.ntmps23
        go_wp2_with fail
        go_ret
        exact ⟨rfl, rfl⟩
  · have t1 : decide (op ≥ 9) = false := by simp; omega
    have t3 : decide (op ≥ 13) = false := by simp; omega
    rw [if_neg (by omega)] at hm
    subst hm
    clear h1
    go_enter Try.func23, Try.ntmps23
    go_wp2_with fail
    go_ret
    exact ⟨rfl, rfl⟩
theorem rbool_calls (b : Bool) (w : World) : Calls Try.prog 26 #[.bool b] w fun e w' => e = .returned (.int .u64 (boolP b)) ∧ w = w' := by
  cases b <;>
  · go_enter Try.func26, Try.ntmps26
    go_wp2
    go_ret
    exact ⟨rfl, rfl⟩
theorem rpair_calls {w : World} {R : Nat → Prop} {g size : Nat} {es : List RE} (h : IsRf w R g size es) (x : Int) (h0 : 0 ≤ x) (h8 : x < 18446744073709551616) :
    Calls Try.prog 25 #[.pointer (some ⟨g, 0, none⟩), .int .u64 x] w fun e w' => e = .returned (.bool (pairA (es.map RE.th) x)) ∧ w = w' := by
  cases hk : (kindA (es.map RE.th) x == 1) <;>
  · have e : pairA (es.map RE.th) x = (kindA (es.map RE.th) x == 1 && lenA (es.map RE.th) x == 2) := rfl
    rw [hk] at e
    rw [e]
    clear e
    go_enter Try.func25, Try.ntmps25
    go_wp2_with fail
    refine (rkind_calls h x h0 h8).mono ?_
    rintro e w1 ⟨rfl, rfl⟩
    first
      | (go_wp2_with fail
         refine (rlen_calls h x h0 h8).mono ?_
         rintro e w1 ⟨rfl, rfl⟩
         go_wp2_with fail
         go_ret
         exact ⟨rfl, rfl⟩)
      | (go_wp2_with fail
         go_ret
         exact ⟨rfl, rfl⟩)
theorem rdo_no (p : Value) (op : Int) (A : Option Addr) (m c : Nat) (w : World) (hn : ¬ (1 ≤ op ∧ op ≤ 17 ∧ (m : Int) = manyP op)) :
    Calls Try.prog 15 #[p, .int .i64 op, .slice A m c] w fun e w' => e = .returned (.tuple #[.int .u64 0, .int .i64 1]) ∧ w = w' := by
  by_cases h1 : op < 1
  · have t1 : decide (op < 1) = true := by simpa using h1
    clear h1 hn
    go_enter Try.func15, Try.ntmps15
    go_wp2_with fail
    go_ret2
    exact ⟨rfl, rfl⟩
  · have t1 : decide (op < 1) = false := by simpa using h1
    by_cases h2 : 17 < op
    · have t2 : decide (op > 17) = true := by simpa using h2
      clear h1 h2 hn
      go_enter Try.func15, Try.ntmps15
      go_wp2_with fail
      go_ret2
      exact ⟨rfl, rfl⟩
    · have t2 : decide (op > 17) = false := by simpa using h2
      have t3 : ((m : Int) != manyP op) = true := by simp; omega
      clear h1 h2 hn
      go_enter Try.func15, Try.ntmps15
      go_wp2_with fail
      refine (many_calls op _ _ rfl).mono ?_
      rintro e w1 ⟨rfl, rfl⟩
      go_wp2_with fail
      go_ret2
      exact ⟨rfl, rfl⟩
theorem rdo_1 (p : Value) (x y : Int) (w : World) (h0 : 0 ≤ x) (h8 : x < 18446744073709551616) (k0 : 0 ≤ y) (k8 : y < 18446744073709551616) (b o c : Nat)
    (hx : w.cell? ⟨b, o, none⟩ = some (.int .u64 x)) (hy : w.cell? ⟨b, o + 1, none⟩ = some (.int .u64 y)) :
    Calls Try.prog 15 #[p, .int .i64 1, .slice (some ⟨b, o, none⟩) 2 c] w fun e w' =>
    e = .returned (.tuple #[.int .u64 (doP (signP 1) x y).1, .int .i64 (doP (signP 1) x y).2]) ∧ Chg [] w w' := by
  have hW := fun w' => cr_Do (signP 1) x y w' h0 h8 k0 k8
  go_enter Try.func15, Try.ntmps15
  go_wp2_with fail
  refine (many_calls 1 2 _ (by decide)).mono ?_
  rintro e w1 ⟨rfl, rfl⟩
  go_upto_region 6 with fail
  go_region_held3 (fun w' => w'.cell? ⟨b, o, none⟩ = some (.int .u64 x) ∧ w'.cell? ⟨b, o + 1, none⟩ = some (.int .u64 y))
    (first | go_keep | exact ⟨Chg.cell (by assumption) hx (by simp), Chg.cell (by assumption) hy (by simp)⟩)
    ((go_at_call 24; refine (hW _).mono ?_; rintro e w1 ⟨rfl, hb⟩; have hc := ((Chg.refl [] w).draw 1).same (Chg.of_below hb); clear hb))
  all_goals go_wp2_with fail
  all_goals go_ret2
  all_goals exact ⟨rfl, hc⟩
theorem rdo_2 (p : Value) (x y : Int) (w : World) (h0 : 0 ≤ x) (h8 : x < 18446744073709551616) (k0 : 0 ≤ y) (k8 : y < 18446744073709551616) (b o c : Nat)
    (hx : w.cell? ⟨b, o, none⟩ = some (.int .u64 x)) (hy : w.cell? ⟨b, o + 1, none⟩ = some (.int .u64 y)) :
    Calls Try.prog 15 #[p, .int .i64 2, .slice (some ⟨b, o, none⟩) 2 c] w fun e w' =>
    e = .returned (.tuple #[.int .u64 (doP (signP 2) x y).1, .int .i64 (doP (signP 2) x y).2]) ∧ Chg [] w w' := by
  have hW := fun w' => cr_Do (signP 2) x y w' h0 h8 k0 k8
  go_enter Try.func15, Try.ntmps15
  go_wp2_with fail
  refine (many_calls 2 2 _ (by decide)).mono ?_
  rintro e w1 ⟨rfl, rfl⟩
  go_upto_region 6 with fail
  go_region_held3 (fun w' => w'.cell? ⟨b, o, none⟩ = some (.int .u64 x) ∧ w'.cell? ⟨b, o + 1, none⟩ = some (.int .u64 y))
    (first | go_keep | exact ⟨Chg.cell (by assumption) hx (by simp), Chg.cell (by assumption) hy (by simp)⟩)
    ((go_at_call 24; refine (hW _).mono ?_; rintro e w1 ⟨rfl, hb⟩; have hc := ((Chg.refl [] w).draw 1).same (Chg.of_below hb); clear hb))
  all_goals go_wp2_with fail
  all_goals go_ret2
  all_goals exact ⟨rfl, hc⟩
theorem rdo_3 (p : Value) (x y : Int) (w : World) (h0 : 0 ≤ x) (h8 : x < 18446744073709551616) (k0 : 0 ≤ y) (k8 : y < 18446744073709551616) (b o c : Nat)
    (hx : w.cell? ⟨b, o, none⟩ = some (.int .u64 x)) (hy : w.cell? ⟨b, o + 1, none⟩ = some (.int .u64 y)) :
    Calls Try.prog 15 #[p, .int .i64 3, .slice (some ⟨b, o, none⟩) 2 c] w fun e w' =>
    e = .returned (.tuple #[.int .u64 (doP (signP 3) x y).1, .int .i64 (doP (signP 3) x y).2]) ∧ Chg [] w w' := by
  have hW := fun w' => cr_Do (signP 3) x y w' h0 h8 k0 k8
  go_enter Try.func15, Try.ntmps15
  go_wp2_with fail
  refine (many_calls 3 2 _ (by decide)).mono ?_
  rintro e w1 ⟨rfl, rfl⟩
  go_upto_region 6 with fail
  go_region_held3 (fun w' => w'.cell? ⟨b, o, none⟩ = some (.int .u64 x) ∧ w'.cell? ⟨b, o + 1, none⟩ = some (.int .u64 y))
    (first | go_keep | exact ⟨Chg.cell (by assumption) hx (by simp), Chg.cell (by assumption) hy (by simp)⟩)
    ((go_at_call 24; refine (hW _).mono ?_; rintro e w1 ⟨rfl, hb⟩; have hc := ((Chg.refl [] w).draw 1).same (Chg.of_below hb); clear hb))
  all_goals go_wp2_with fail
  all_goals go_ret2
  all_goals exact ⟨rfl, hc⟩
theorem rdo_4 (p : Value) (x y : Int) (w : World) (h0 : 0 ≤ x) (h8 : x < 18446744073709551616) (k0 : 0 ≤ y) (k8 : y < 18446744073709551616) (b o c : Nat)
    (hx : w.cell? ⟨b, o, none⟩ = some (.int .u64 x)) (hy : w.cell? ⟨b, o + 1, none⟩ = some (.int .u64 y)) :
    Calls Try.prog 15 #[p, .int .i64 4, .slice (some ⟨b, o, none⟩) 2 c] w fun e w' =>
    e = .returned (.tuple #[.int .u64 (doP (signP 4) x y).1, .int .i64 (doP (signP 4) x y).2]) ∧ Chg [] w w' := by
  have hW := fun w' => cr_Do (signP 4) x y w' h0 h8 k0 k8
  go_enter Try.func15, Try.ntmps15
  go_wp2_with fail
  refine (many_calls 4 2 _ (by decide)).mono ?_
  rintro e w1 ⟨rfl, rfl⟩
  go_upto_region 6 with fail
  go_region_held3 (fun w' => w'.cell? ⟨b, o, none⟩ = some (.int .u64 x) ∧ w'.cell? ⟨b, o + 1, none⟩ = some (.int .u64 y))
    (first | go_keep | exact ⟨Chg.cell (by assumption) hx (by simp), Chg.cell (by assumption) hy (by simp)⟩)
    ((go_at_call 24; refine (hW _).mono ?_; rintro e w1 ⟨rfl, hb⟩; have hc := ((Chg.refl [] w).draw 1).same (Chg.of_below hb); clear hb))
  all_goals go_wp2_with fail
  all_goals go_ret2
  all_goals exact ⟨rfl, hc⟩
theorem rdo_5 (p : Value) (x y : Int) (w : World) (h0 : 0 ≤ x) (h8 : x < 18446744073709551616) (k0 : 0 ≤ y) (k8 : y < 18446744073709551616) (b o c : Nat)
    (hx : w.cell? ⟨b, o, none⟩ = some (.int .u64 x)) (hy : w.cell? ⟨b, o + 1, none⟩ = some (.int .u64 y)) :
    Calls Try.prog 15 #[p, .int .i64 5, .slice (some ⟨b, o, none⟩) 2 c] w fun e w' =>
    e = .returned (.tuple #[.int .u64 (doP (signP 5) x y).1, .int .i64 (doP (signP 5) x y).2]) ∧ Chg [] w w' := by
  have hW := fun w' => cr_Do (signP 5) x y w' h0 h8 k0 k8
  go_enter Try.func15, Try.ntmps15
  go_wp2_with fail
  refine (many_calls 5 2 _ (by decide)).mono ?_
  rintro e w1 ⟨rfl, rfl⟩
  go_upto_region 6 with fail
  go_region_held3 (fun w' => w'.cell? ⟨b, o, none⟩ = some (.int .u64 x) ∧ w'.cell? ⟨b, o + 1, none⟩ = some (.int .u64 y))
    (first | go_keep | exact ⟨Chg.cell (by assumption) hx (by simp), Chg.cell (by assumption) hy (by simp)⟩)
    ((go_at_call 24; refine (hW _).mono ?_; rintro e w1 ⟨rfl, hb⟩; have hc := ((Chg.refl [] w).draw 1).same (Chg.of_below hb); clear hb))
  all_goals go_wp2_with fail
  all_goals go_ret2
  all_goals exact ⟨rfl, hc⟩
theorem rdo_6 (p : Value) (x y : Int) (w : World) (h0 : 0 ≤ x) (h8 : x < 18446744073709551616) (k0 : 0 ≤ y) (k8 : y < 18446744073709551616) (b o c : Nat)
    (hx : w.cell? ⟨b, o, none⟩ = some (.int .u64 x)) (hy : w.cell? ⟨b, o + 1, none⟩ = some (.int .u64 y)) :
    Calls Try.prog 15 #[p, .int .i64 6, .slice (some ⟨b, o, none⟩) 2 c] w fun e w' =>
    e = .returned (.tuple #[.int .u64 (doP (signP 6) x y).1, .int .i64 (doP (signP 6) x y).2]) ∧ Chg [] w w' := by
  have hW := fun w' => cr_Do (signP 6) x y w' h0 h8 k0 k8
  go_enter Try.func15, Try.ntmps15
  go_wp2_with fail
  refine (many_calls 6 2 _ (by decide)).mono ?_
  rintro e w1 ⟨rfl, rfl⟩
  go_upto_region 6 with fail
  go_region_held3 (fun w' => w'.cell? ⟨b, o, none⟩ = some (.int .u64 x) ∧ w'.cell? ⟨b, o + 1, none⟩ = some (.int .u64 y))
    (first | go_keep | exact ⟨Chg.cell (by assumption) hx (by simp), Chg.cell (by assumption) hy (by simp)⟩)
    ((go_at_call 24; refine (hW _).mono ?_; rintro e w1 ⟨rfl, hb⟩; have hc := ((Chg.refl [] w).draw 1).same (Chg.of_below hb); clear hb))
  all_goals go_wp2_with fail
  all_goals go_ret2
  all_goals exact ⟨rfl, hc⟩
theorem rdo_7 (p : Value) (x y : Int) (w : World) (h0 : 0 ≤ x) (h8 : x < 18446744073709551616) (k0 : 0 ≤ y) (k8 : y < 18446744073709551616) (b o c : Nat)
    (hx : w.cell? ⟨b, o, none⟩ = some (.int .u64 x)) (hy : w.cell? ⟨b, o + 1, none⟩ = some (.int .u64 y)) :
    Calls Try.prog 15 #[p, .int .i64 7, .slice (some ⟨b, o, none⟩) 2 c] w fun e w' =>
    e = .returned (.tuple #[.int .u64 (doP (signP 7) x y).1, .int .i64 (doP (signP 7) x y).2]) ∧ Chg [] w w' := by
  have hW := fun w' => cr_Do (signP 7) x y w' h0 h8 k0 k8
  go_enter Try.func15, Try.ntmps15
  go_wp2_with fail
  refine (many_calls 7 2 _ (by decide)).mono ?_
  rintro e w1 ⟨rfl, rfl⟩
  go_upto_region 6 with fail
  go_region_held3 (fun w' => w'.cell? ⟨b, o, none⟩ = some (.int .u64 x) ∧ w'.cell? ⟨b, o + 1, none⟩ = some (.int .u64 y))
    (first | go_keep | exact ⟨Chg.cell (by assumption) hx (by simp), Chg.cell (by assumption) hy (by simp)⟩)
    ((go_at_call 24; refine (hW _).mono ?_; rintro e w1 ⟨rfl, hb⟩; have hc := ((Chg.refl [] w).draw 1).same (Chg.of_below hb); clear hb))
  all_goals go_wp2_with fail
  all_goals go_ret2
  all_goals exact ⟨rfl, hc⟩
theorem rdo_num (p : Value) (op x y : Int) (w : World) (h1 : 1 ≤ op) (h7 : op ≤ 7) (h0 : 0 ≤ x) (h8 : x < 18446744073709551616) (k0 : 0 ≤ y) (k8 : y < 18446744073709551616) (b o c : Nat)
    (hx : w.cell? ⟨b, o, none⟩ = some (.int .u64 x)) (hy : w.cell? ⟨b, o + 1, none⟩ = some (.int .u64 y)) :
    Calls Try.prog 15 #[p, .int .i64 op, .slice (some ⟨b, o, none⟩) 2 c] w fun e w' =>
    e = .returned (.tuple #[.int .u64 (doP (signP op) x y).1, .int .i64 (doP (signP op) x y).2]) ∧ Chg [] w w' := by
  rcases (show op = 1 ∨ op = 2 ∨ op = 3 ∨ op = 4 ∨ op = 5 ∨ op = 6 ∨ op = 7 by omega) with rfl | rfl | rfl | rfl | rfl | rfl | rfl
  · exact rdo_1 p x y w h0 h8 k0 k8 b o c hx hy
  · exact rdo_2 p x y w h0 h8 k0 k8 b o c hx hy
  · exact rdo_3 p x y w h0 h8 k0 k8 b o c hx hy
  · exact rdo_4 p x y w h0 h8 k0 k8 b o c hx hy
  · exact rdo_5 p x y w h0 h8 k0 k8 b o c hx hy
  · exact rdo_6 p x y w h0 h8 k0 k8 b o c hx hy
  · exact rdo_7 p x y w h0 h8 k0 k8 b o c hx hy
section
variable {w : World} {R : Nat → Prop} {g size : Nat} {es : List RE} (h : IsRf w R g size es) (x : Int) (h0 : 0 ≤ x) (h8 : x < 18446744073709551616) (b o c : Nat) (hx : w.cell? ⟨b, o, none⟩ = some (.int .u64 x))
include h h0 h8 hx
set_option maxHeartbeats 1000000 in
theorem rdo_9 : Calls Try.prog 15 #[.pointer (some ⟨g, 0, none⟩), .int .i64 9, .slice (some ⟨b, o, none⟩) 1 c] w fun e w' =>
    e = .returned (.tuple #[.int .u64 (boolP (x == 10)), .int .i64 0]) ∧ w = w' := by
  go_enter Try.func15, Try.ntmps15
  go_wp2_with fail
  refine (many_calls 9 1 _ (by decide)).mono ?_
  rintro e w1 ⟨rfl, rfl⟩
  go_wp2_with fail
  refine (rpair_calls h x h0 h8).mono ?_
  rintro e w1 ⟨rfl, rfl⟩
  go_wp2_with fail

  refine (rbool_calls _ _).mono ?_
  rintro e w1 ⟨rfl, rfl⟩
  go_wp2_with fail
  go_ret2
  exact ⟨rfl, rfl⟩
set_option maxHeartbeats 1000000 in
theorem rdo_10 : Calls Try.prog 15 #[.pointer (some ⟨g, 0, none⟩), .int .i64 10, .slice (some ⟨b, o, none⟩) 1 c] w fun e w' =>
    e = .returned (.tuple #[.int .u64 (boolP (x == 2)), .int .i64 0]) ∧ w = w' := by
  go_enter Try.func15, Try.ntmps15
  go_wp2_with fail
  refine (many_calls 10 1 _ (by decide)).mono ?_
  rintro e w1 ⟨rfl, rfl⟩
  go_wp2_with fail
  refine (rpair_calls h x h0 h8).mono ?_
  rintro e w1 ⟨rfl, rfl⟩
  go_wp2_with fail

  refine (rbool_calls _ _).mono ?_
  rintro e w1 ⟨rfl, rfl⟩
  go_wp2_with fail
  go_ret2
  exact ⟨rfl, rfl⟩
set_option maxHeartbeats 1000000 in
theorem rdo_11 : Calls Try.prog 15 #[.pointer (some ⟨g, 0, none⟩), .int .i64 11, .slice (some ⟨b, o, none⟩) 1 c] w fun e w' =>
    e = .returned (.tuple #[.int .u64 (boolP (pairA (es.map RE.th) x)), .int .i64 0]) ∧ w = w' := by
  go_enter Try.func15, Try.ntmps15
  go_wp2_with fail
  refine (many_calls 11 1 _ (by decide)).mono ?_
  rintro e w1 ⟨rfl, rfl⟩
  go_wp2_with fail
  refine (rpair_calls h x h0 h8).mono ?_
  rintro e w1 ⟨rfl, rfl⟩
  go_wp2_with fail

  refine (rbool_calls _ _).mono ?_
  rintro e w1 ⟨rfl, rfl⟩
  go_wp2_with fail
  go_ret2
  exact ⟨rfl, rfl⟩
set_option maxHeartbeats 1000000 in
theorem rdo_15 : Calls Try.prog 15 #[.pointer (some ⟨g, 0, none⟩), .int .i64 15, .slice (some ⟨b, o, none⟩) 1 c] w fun e w' =>
    e = .returned (.tuple #[.int .u64 (boolP (toIntP x).2), .int .i64 0]) ∧ ∃ n, w' = w.drewN n := by
  go_enter Try.func15, Try.ntmps15
  go_wp2_with fail
  refine (many_calls 15 1 _ (by decide)).mono ?_
  rintro e w1 ⟨rfl, rfl⟩
  go_wp2_with fail
  refine (rpair_calls h x h0 h8).mono ?_
  rintro e w1 ⟨rfl, rfl⟩
  go_wp2_with fail
  refine (cr_ToInt x _ h0 h8).mono ?_
  rintro e w1 ⟨rfl, ⟨n, rfl⟩⟩
  go_wp2_with fail
  refine (rbool_calls _ _).mono ?_
  rintro e w1 ⟨rfl, rfl⟩
  go_wp2_with fail
  go_ret2
  exact ⟨rfl, n, rfl⟩
set_option maxHeartbeats 1000000 in
theorem rdo_16 : Calls Try.prog 15 #[.pointer (some ⟨g, 0, none⟩), .int .i64 16, .slice (some ⟨b, o, none⟩) 1 c] w fun e w' =>
    e = .returned (.tuple #[.int .u64 (boolP (toP 3 x).2), .int .i64 0]) ∧ w = w' := by
  go_enter Try.func15, Try.ntmps15
  go_wp2_with fail
  refine (many_calls 16 1 _ (by decide)).mono ?_
  rintro e w1 ⟨rfl, rfl⟩
  go_wp2_with fail
  refine (rpair_calls h x h0 h8).mono ?_
  rintro e w1 ⟨rfl, rfl⟩
  go_wp2_with fail
  refine (rto_one 3 x _ (by decide) h0 h8).mono ?_
  rintro e w1 ⟨rfl, rfl⟩
  go_wp2_with fail
  refine (rbool_calls _ _).mono ?_
  rintro e w1 ⟨rfl, rfl⟩
  go_wp2_with fail
  go_ret2
  exact ⟨rfl, rfl⟩
set_option maxHeartbeats 1000000 in
theorem rdo_17 : Calls Try.prog 15 #[.pointer (some ⟨g, 0, none⟩), .int .i64 17, .slice (some ⟨b, o, none⟩) 1 c] w fun e w' =>
    e = .returned (.tuple #[.int .u64 (boolP (kindA (es.map RE.th) x == 2 || kindA (es.map RE.th) x == 5)), .int .i64 0]) ∧ w = w' := by
  have K := rkind_calls h x h0 h8
  have Q := rpair_calls h x h0 h8
  generalize kindA (es.map RE.th) x = k at *
  cases h2 : (k == 2) <;>
  · simp only [Bool.false_or, Bool.true_or]
    go_enter Try.func15, Try.ntmps15
    go_wp2_with fail
    refine (many_calls 17 1 _ (by decide)).mono ?_
    rintro e w1 ⟨rfl, rfl⟩
    go_wp2_with fail
    refine Q.mono ?_
    rintro e w1 ⟨rfl, rfl⟩
    go_wp2_with fail
    refine K.mono ?_
    rintro e w1 ⟨rfl, rfl⟩
    go_wp2_with fail
    refine (rbool_calls _ _).mono ?_
    rintro e w1 ⟨rfl, rfl⟩
    go_wp2_with fail
    go_ret2
    exact ⟨rfl, rfl⟩
set_option maxHeartbeats 1000000 in
theorem rdo_13 : Calls Try.prog 15 #[.pointer (some ⟨g, 0, none⟩), .int .i64 13, .slice (some ⟨b, o, none⟩) 1 c] w fun e w' =>
    e = .returned (.tuple #[.int .u64 (if pairA (es.map RE.th) x = true then getA (es.map RE.th) x 0 else (0, 100)).1, .int .i64 (if pairA (es.map RE.th) x = true then getA (es.map RE.th) x 0 else (0, 100)).2]) ∧ w = w' := by
  have Q := rpair_calls h x h0 h8
  cases hp : pairA (es.map RE.th) x <;> rw [hp] at Q
  · rw [if_neg (by simp)]
    go_enter Try.func15, Try.ntmps15
    go_wp2_with fail
    refine (many_calls 13 1 _ (by decide)).mono ?_
    rintro e w1 ⟨rfl, rfl⟩
    go_wp2_with fail
    refine Q.mono ?_
    rintro e w1 ⟨rfl, rfl⟩
    go_wp2_with fail
    go_ret2
    exact ⟨rfl, rfl⟩
  · rw [if_pos rfl]
    go_enter Try.func15, Try.ntmps15
    go_wp2_with fail
    refine (many_calls 13 1 _ (by decide)).mono ?_
    rintro e w1 ⟨rfl, rfl⟩
    go_wp2_with fail
    refine Q.mono ?_
    rintro e w1 ⟨rfl, rfl⟩
    go_wp2_with fail
    refine (rget_calls h x h0 h8 0).mono ?_
    rintro e w1 ⟨rfl, rfl⟩
    go_wp2_with fail
    go_ret2
    exact ⟨rfl, rfl⟩
set_option maxHeartbeats 1000000 in
theorem rdo_14 : Calls Try.prog 15 #[.pointer (some ⟨g, 0, none⟩), .int .i64 14, .slice (some ⟨b, o, none⟩) 1 c] w fun e w' =>
    e = .returned (.tuple #[.int .u64 (if pairA (es.map RE.th) x = true then getA (es.map RE.th) x 1 else (0, 100)).1, .int .i64 (if pairA (es.map RE.th) x = true then getA (es.map RE.th) x 1 else (0, 100)).2]) ∧ w = w' := by
  have Q := rpair_calls h x h0 h8
  cases hp : pairA (es.map RE.th) x <;> rw [hp] at Q
  · rw [if_neg (by simp)]
    go_enter Try.func15, Try.ntmps15
    go_wp2_with fail
    refine (many_calls 14 1 _ (by decide)).mono ?_
    rintro e w1 ⟨rfl, rfl⟩
    go_wp2_with fail
    refine Q.mono ?_
    rintro e w1 ⟨rfl, rfl⟩
    go_wp2_with fail
    go_ret2
    exact ⟨rfl, rfl⟩
  · rw [if_pos rfl]
    go_enter Try.func15, Try.ntmps15
    go_wp2_with fail
    refine (many_calls 14 1 _ (by decide)).mono ?_
    rintro e w1 ⟨rfl, rfl⟩
    go_wp2_with fail
    refine Q.mono ?_
    rintro e w1 ⟨rfl, rfl⟩
    go_wp2_with fail
    refine (rget_calls h x h0 h8 1).mono ?_
    rintro e w1 ⟨rfl, rfl⟩
    go_wp2_with fail
    go_ret2
    exact ⟨rfl, rfl⟩
variable (y : Int) (hy : w.cell? ⟨b, o + 1, none⟩ = some (.int .u64 y))
include hy
set_option maxHeartbeats 1000000 in
theorem rdo_8 : Calls Try.prog 15 #[.pointer (some ⟨g, 0, none⟩), .int .i64 8, .slice (some ⟨b, o, none⟩) 2 c] w fun e w' =>
    e = .returned (.tuple #[.int .u64 (boolP (x == y)), .int .i64 0]) ∧ w = w' := by
  go_enter Try.func15, Try.ntmps15
  go_wp2_with fail
  refine (many_calls 8 2 _ (by decide)).mono ?_
  rintro e w1 ⟨rfl, rfl⟩
  go_wp2_with fail
  refine (rpair_calls h x h0 h8).mono ?_
  rintro e w1 ⟨rfl, rfl⟩
  go_wp2_with fail
  refine (rbool_calls _ _).mono ?_
  rintro e w1 ⟨rfl, rfl⟩
  go_wp2_with fail
  go_ret2
  exact ⟨rfl, rfl⟩
set_option maxHeartbeats 1000000 in
theorem rdo_12 (hR : ∀ b, w.heap.size ≤ b → R b) : Calls Try.prog 15 #[.pointer (some ⟨g, 0, none⟩), .int .i64 12, .slice (some ⟨b, o, none⟩) 2 c] w fun e w' =>
    e = .returned (.tuple #[.int .u64 (allocA (es.map RE.th) size 1 [x, y]).2.1, .int .i64 (allocA (es.map RE.th) size 1 [x, y]).2.2]) ∧ (∃ es', es'.map RE.th = (allocA (es.map RE.th) size 1 [x, y]).1 ∧ IsRf w' R g size es') ∧ ChgR R w w' := by
  have hc := (Chg.refl [] w).alloc (.cells #[.int .u64 x, .int .u64 y] 36)
  have hA := h.sub hc
  have hs : Src (w.alloc (.cells #[.int .u64 x, .int .u64 y] 36)) 1 (.slice (some ⟨w.heap.size, 0, none⟩) 2 2) 2 (nums .u64 [x, y]) := by
    refine ⟨rfl, _, _, rfl, fun _ => ⟨_, rfl, ?_⟩⟩
    intro j u hu
    rw [add_flat, blk_cell (blk_new rfl)]
    simpa [nums] using hu
  have HAL := ralloc_any hA 1 (some ⟨w.heap.size, 0, none⟩) 2 [x, y] hs (fun b hb => hR b (by have := hc.size; omega))
  go_enter Try.func15, Try.ntmps15
  go_wp2_with fail
  refine (many_calls 12 2 _ (by decide)).mono ?_
  rintro e w1 ⟨rfl, rfl⟩
  go_wp2_with fail
  refine (rpair_calls h x h0 h8).mono ?_
  rintro e w1 ⟨rfl, rfl⟩
  go_wp2_with fail
  refine HAL.mono ?_
  rintro e w1 ⟨rfl, hE, hch⟩
  go_wp2_with fail
  go_ret2
  exact ⟨rfl, hE, (ChgR.of0 hc).same hch⟩
end
/-- the document's answer is the prim's own, over things that are alike -/
theorem rdo_calls {w : World} {R : Nat → Prop} {g size : Nat} {es : List RE} (h : IsRf w R g size es) (op : Int) (A : Option Addr) (c : Nat) (xs : List Int) (hok : ∀ x, x ∈ xs → 0 ≤ x ∧ x < 18446744073709551616)
    (hv : Src w 1 (.slice A xs.length c) xs.length (nums .u64 xs)) (hR : ∀ b, w.heap.size ≤ b → R b) (hA : ∀ ad, A = some ad → ad.spot = none) :
    Calls Try.prog 15 #[.pointer (some ⟨g, 0, none⟩), .int .i64 op, .slice A xs.length c] w fun e w' =>
      e = .returned (.tuple #[.int .u64 (primA (es.map RE.th) size op xs).2.1, .int .i64 (primA (es.map RE.th) size op xs).2.2]) ∧ (∃ es', es'.map RE.th = (primA (es.map RE.th) size op xs).1 ∧ IsRf w' R g size es') ∧ ChgR R w w' := by
  by_cases hb : 1 ≤ op ∧ op ≤ 17 ∧ (xs.length : Int) = manyP op
  · obtain ⟨b1, b2, b3⟩ := hb
    have hlen : 0 < xs.length := by unfold manyP at b3; split at b3 <;> omega
    obtain ⟨ad, rfl, hcell⟩ := hv.at hlen
    obtain ⟨b, o, sp⟩ := ad
    have hsp := hA _ rfl
    simp only at hsp
    subst hsp
    have hq : ∀ (j : Nat) (x : Int), xs[j]? = some x → w.cell? ⟨b, o + j, none⟩ = some (.int .u64 x) := by
      intro j x hj
      rw [← add_flat]
      exact hcell j _ (by simp [nums, hj])
    clear hv hA hcell
    match xs, b3, hok, hq with
    | [x], b3, hok, hq =>
      have hx := hq 0 x rfl
      rw [Nat.add_zero] at hx
      obtain ⟨k0, k8⟩ := hok x (by simp)
      have h1 : (9 ≤ op ∧ op ≤ 11) ∨ 13 ≤ op := by
        unfold manyP at b3
        split at b3
        · assumption
        · simp at b3
      clear b3 hq hok
      show Calls _ _ #[_, _, .slice _ 1 c] _ _
      rcases (show op = 9 ∨ op = 10 ∨ op = 11 ∨ op = 13 ∨ op = 14 ∨ op = 15 ∨ op = 16 ∨ op = 17 by omega) with rfl | rfl | rfl | rfl | rfl | rfl | rfl | rfl
      · exact (rdo_9 h x k0 k8 b o c hx).mono fun e w' ⟨h1, h2⟩ => ⟨h1, h2 ▸ ⟨es, rfl, h⟩, h2 ▸ ChgR.refl _ _⟩
      · exact (rdo_10 h x k0 k8 b o c hx).mono fun e w' ⟨h1, h2⟩ => ⟨h1, h2 ▸ ⟨es, rfl, h⟩, h2 ▸ ChgR.refl _ _⟩
      · exact (rdo_11 h x k0 k8 b o c hx).mono fun e w' ⟨h1, h2⟩ => ⟨h1, h2 ▸ ⟨es, rfl, h⟩, h2 ▸ ChgR.refl _ _⟩
      · exact (rdo_13 h x k0 k8 b o c hx).mono fun e w' ⟨h1, h2⟩ => ⟨h1, h2 ▸ ⟨es, rfl, h⟩, h2 ▸ ChgR.refl _ _⟩
      · exact (rdo_14 h x k0 k8 b o c hx).mono fun e w' ⟨h1, h2⟩ => ⟨h1, h2 ▸ ⟨es, rfl, h⟩, h2 ▸ ChgR.refl _ _⟩
      · exact (rdo_15 h x k0 k8 b o c hx).mono fun e w' ⟨h1, n, h2⟩ => ⟨h1, ⟨es, rfl, by rw [h2]; exact h.sub ((Chg.refl _ _).draw n)⟩, by rw [h2]; exact (ChgR.refl _ _).drawn n⟩
      · exact (rdo_16 h x k0 k8 b o c hx).mono fun e w' ⟨h1, h2⟩ => ⟨h1, h2 ▸ ⟨es, rfl, h⟩, h2 ▸ ChgR.refl _ _⟩
      · exact (rdo_17 h x k0 k8 b o c hx).mono fun e w' ⟨h1, h2⟩ => ⟨h1, h2 ▸ ⟨es, rfl, h⟩, h2 ▸ ChgR.refl _ _⟩
    | [x, y], b3, hok, hq =>
      have hx := hq 0 x rfl
      rw [Nat.add_zero] at hx
      have hy := hq 1 y rfl
      obtain ⟨k0, k8⟩ := hok x (by simp)
      obtain ⟨y0, y8⟩ := hok y (by simp)
      have h1 : ¬ ((9 ≤ op ∧ op ≤ 11) ∨ 13 ≤ op) := by
        unfold manyP at b3
        split at b3
        · simp at b3
        · assumption
      clear b3 hq hok
      show Calls _ _ #[_, _, .slice _ 2 c] _ _
      by_cases h7 : op ≤ 7
      · rw [show primA (es.map RE.th) size op [x, y] = (es.map RE.th, doP (signP op) x y) by show twoA _ _ _ _ _ = _; unfold twoA; rw [if_pos ⟨b1, h7⟩]]
        exact (rdo_num _ op x y w b1 h7 k0 k8 y0 y8 b o c hx hy).mono fun e w' ⟨h1, h2⟩ => ⟨h1, ⟨es, rfl, h.sub h2⟩, ChgR.of0 h2⟩
      · rcases (show op = 8 ∨ op = 12 by omega) with rfl | rfl
        · exact (rdo_8 h x k0 k8 b o c hx y hy).mono fun e w' ⟨h1, h2⟩ => ⟨h1, h2 ▸ ⟨es, rfl, h⟩, h2 ▸ ChgR.refl _ _⟩
        · exact rdo_12 h x k0 k8 b o c hx y hy hR
    | [], b3, _, _ => exact absurd hlen (by simp)
    | x :: y :: z :: r, b3, _, _ =>
      exfalso
      unfold manyP at b3
      split at b3 <;> simp at b3 <;> omega
  · have e : primA (es.map RE.th) size op xs = (es.map RE.th, 0, 1) := by
      unfold manyP at hb
      match xs, hb with
      | [x], hb =>
        simp only [List.length_singleton] at hb
        show ((es.map RE.th), oneA _ op x) = _
        unfold oneA
        rw [if_neg (by rintro rfl; simp at hb), if_neg (by rintro rfl; simp at hb), if_neg (by rintro rfl; simp at hb), if_neg (by rintro rfl; simp at hb), if_neg (by rintro rfl; simp at hb), if_neg (by rintro rfl; simp at hb), if_pos (by rintro (rfl | rfl) <;> simp at hb)]
      | [x, y], hb =>
        show twoA _ _ _ _ _ = _
        unfold twoA
        have hb2 : ¬ (1 ≤ op ∧ op ≤ 17 ∧ ¬ ((9 ≤ op ∧ op ≤ 11) ∨ 13 ≤ op)) := by
          rintro ⟨q1, q2, q3⟩
          exact hb ⟨q1, q2, by rw [if_neg q3]; rfl⟩
        rw [if_neg (by omega), if_neg (by omega), if_neg (by omega)]
      | [], _ => rfl
      | _ :: _ :: _ :: _, _ => rfl
    rw [e]
    exact (rdo_no _ op A xs.length c w hb).mono fun e w' ⟨h1, h2⟩ => ⟨h1, h2 ▸ ⟨es, rfl, h⟩, h2 ▸ ChgR.refl _ _⟩
end Go.Proofs.Ytoofnpecofcjjaa.Prim

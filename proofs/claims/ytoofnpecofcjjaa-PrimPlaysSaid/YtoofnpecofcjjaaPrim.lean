/- Contracts of layer 10 (prim), walked; each states its conditions. -/
import Derived.Test.YtoofnpecofcjjaaArenaC6
import Derived.Test.YtoofnpecofcjjaaWordDo
namespace Go.Proofs.Ytoofnpecofcjjaa.Prim
set_option linter.unusedSectionVars false
open Go Go.RowKit Go.Proofs.Ytoofnpecofcjjaa.Heap Go.Proofs.Ytoofnpecofcjjaa.Word Go.Proofs.Ytoofnpecofcjjaa.Own Go.Proofs.Ytoofnpecofcjjaa.Ar Go.Proofs.Ytoofnpecofcjjaa.Pure
/-- the box in which asks keeps its arena -/
abbrev box (q : Option Addr) : Obj := .cells #[.pointer q] 25
theorem asks_not (q : Option Addr) (w : World) : Calls Try.prog 35 #[.pointer q, .int .i64 9] w fun e w' =>
    e = .returned (.func (.func 43) #[] #[]) ∧ w' = w.alloc (box q) := by
  go_enter Try.func35, Try.ntmps35
  go_wp2
  go_ret
  exact ⟨rfl, rfl⟩
theorem asks_null (q : Option Addr) (w : World) : Calls Try.prog 35 #[.pointer q, .int .i64 10] w fun e w' =>
    e = .returned (.func (.func 44) #[] #[]) ∧ w' = w.alloc (box q) := by
  go_enter Try.func35, Try.ntmps35
  go_wp2
  go_ret
  exact ⟨rfl, rfl⟩
theorem asks_pair (q : Option Addr) (w : World) : Calls Try.prog 35 #[.pointer q, .int .i64 11] w fun e w' =>
    e = .returned (.func (.func 45) #[] #[.pointer (some ⟨w.heap.size, 0, none⟩)]) ∧ w' = w.alloc (box q) := by
  go_enter Try.func35, Try.ntmps35
  go_wp2
  go_ret
  exact ⟨rfl, rfl⟩
theorem asks_int (q : Option Addr) (w : World) : Calls Try.prog 35 #[.pointer q, .int .i64 15] w fun e w' =>
    e = .returned (.func (.func 46) #[] #[]) ∧ w' = w.alloc (box q) := by
  go_enter Try.func35, Try.ntmps35
  go_wp2
  go_ret
  exact ⟨rfl, rfl⟩
theorem asks_name (q : Option Addr) (w : World) : Calls Try.prog 35 #[.pointer q, .int .i64 16] w fun e w' =>
    e = .returned (.func (.func 47) #[] #[]) ∧ w' = w.alloc (box q) := by
  go_enter Try.func35, Try.ntmps35
  go_wp2
  go_ret
  exact ⟨rfl, rfl⟩
theorem asks_fn (q : Option Addr) (w : World) : Calls Try.prog 35 #[.pointer q, .int .i64 17] w fun e w' =>
    e = .returned (.func (.func 49) #[] #[.pointer (some ⟨w.heap.size, 0, none⟩)]) ∧ w' = w.alloc (box q) := by
  go_enter Try.func35, Try.ntmps35
  go_wp2
  go_ret
  exact ⟨rfl, rfl⟩
theorem asks_none (q : Option Addr) (op : Int) (w : World) (h : ¬ (op = 9 ∨ op = 10 ∨ op = 11 ∨ op = 15 ∨ op = 16 ∨ op = 17)) : Calls Try.prog 35 #[.pointer q, .int .i64 op] w fun e w' =>
    e = .returned .nilFunc ∧ w' = w.alloc (box q) := by
  simp only [not_or] at h
  obtain ⟨h1, h2, h3, h4, h5, h6⟩ := h
  have t1 : (op == 9) = false := by simpa using h1
  have t2 : (op == 10) = false := by simpa using h2
  have t3 : (op == 11) = false := by simpa using h3
  have t4 : (op == 15) = false := by simpa using h4
  have t5 : (op == 16) = false := by simpa using h5
  have t6 : (op == 17) = false := by simpa using h6
  clear h1 h2 h3 h4 h5 h6
  go_enter Try.func35, Try.ntmps35
  go_wp2
  go_ret
  exact ⟨rfl, rfl⟩
/-- is a word a Pair -/
def pairA (l : List Thing) (x : Int) : Bool := kindA l x == 1 && lenA l x == 2
theorem pair_calls {w : World} {g bw bh size : Nat} {l : List Thing} (h : IsAr w g bw bh size l) (x : Int) (h0 : 0 ≤ x) (h8 : x < 18446744073709551616) :
    Calls Try.prog 36 #[.pointer (some ⟨g, 0, none⟩), .int .u64 x] w fun e w' => e = .returned (.bool (pairA l x)) ∧ w = w' := by
  cases hk : (kindA l x == 1) <;>
  · have e : pairA l x = (kindA l x == 1 && lenA l x == 2) := rfl
    rw [hk] at e
    rw [e]
    clear e
    go_enter Try.func36, Try.ntmps36
    go_wp2_with fail
    refine (kind_calls h x h0 h8).mono ?_
    rintro e w1 ⟨rfl, rfl⟩
    first
      | (go_wp2_with fail
         refine (len_calls h x h0 h8).mono ?_
         rintro e w1 ⟨rfl, rfl⟩
         go_wp2_with fail
         go_ret
         exact ⟨rfl, rfl⟩)
      | (go_wp2_with fail
         go_ret
         exact ⟨rfl, rfl⟩)
theorem bool_calls (b : Bool) (w : World) : Calls Try.prog 34 #[.bool b] w fun e w' => e = .returned (.int .u64 (boolP b)) ∧ w = w' := by
  cases b <;>
  · go_enter Try.func34, Try.ntmps34
    go_wp2
    go_ret
    exact ⟨rfl, rfl⟩
/-- what one word is asked, or its part -/
def oneA (l : List Thing) (op x : Int) : Int × Int :=
  if op = 9 then (boolP (x == 10), 0) else if op = 10 then (boolP (x == 2), 0) else if op = 11 then (boolP (pairA l x), 0)
  else if op = 15 then (boolP (toIntP x).2, 0) else if op = 16 then (boolP (toP 3 x).2, 0) else if op = 17 then (boolP (kindA l x == 2 || kindA l x == 5), 0)
  else if ¬ (op = 13 ∨ op = 14) then (0, 1) else if pairA l x = true then getA l x (op - 13) else (0, 100)
theorem func_ne (fn : Fn) (f c : Array Value) (W : World) : Sem.run Try.prog (binOp BinOp.neq 71 (Value.func fn f c) Value.nilFunc) W = .ok (.bool true) W := rfl
theorem func_no (W : World) : Sem.run Try.prog (binOp BinOp.neq 71 Value.nilFunc Value.nilFunc) W = .ok (.bool false) W := rfl
theorem clo_not (x : Int) (w : World) : Calls Try.prog 43 #[.int .u64 x] w fun e w' => e = .returned (.bool (x == 10)) ∧ w = w' := by
  go_enter Try.func43, Try.ntmps43
  go_wp2
  go_ret
  exact ⟨rfl, rfl⟩
theorem clo_null (x : Int) (w : World) : Calls Try.prog 44 #[.int .u64 x] w fun e w' => e = .returned (.bool (x == 2)) ∧ w = w' := by
  go_enter Try.func44, Try.ntmps44
  go_wp2
  go_ret
  exact ⟨rfl, rfl⟩
theorem clo_int (x : Int) (w : World) (h0 : 0 ≤ x) (h8 : x < 18446744073709551616) : Calls Try.prog 46 #[.int .u64 x] w fun e w' => e = .returned (.bool (toIntP x).2) ∧ ∃ n, w' = w.drewN n := by
  go_enter Try.func46, Try.ntmps46
  go_wp2_with fail
  refine (c_ToInt x _ h0 h8).mono ?_
  rintro e w1 ⟨rfl, ⟨n, rfl⟩⟩
  go_wp2_with fail
  go_ret
  exact ⟨rfl, n, rfl⟩
theorem clo_name (x : Int) (w : World) (h0 : 0 ≤ x) (h8 : x < 18446744073709551616) : Calls Try.prog 47 #[.int .u64 x] w fun e w' => e = .returned (.bool (toP 3 x).2) ∧ w = w' := by
  go_enter Try.func47, Try.ntmps47
  go_wp2_with fail
  refine (to_one 3 x _ (by decide) h0 h8).mono ?_
  rintro e w1 ⟨rfl, rfl⟩
  go_wp2_with fail
  go_ret
  exact ⟨rfl, rfl⟩
theorem clo_pair {w : World} {g bw bh size b : Nat} {l : List Thing} (h : IsAr w g bw bh size l) (hb : w.heap[b]? = some (box (some ⟨g, 0, none⟩))) (x : Int) (h0 : 0 ≤ x) (h8 : x < 18446744073709551616) :
    Calls Try.prog 45 #[.int .u64 x, .pointer (some ⟨b, 0, none⟩)] w fun e w' => e = .returned (.bool (pairA l x)) ∧ w = w' := by
  have hq : w.cell? ⟨b, 0, none⟩ = some (.pointer (some ⟨g, 0, none⟩)) := by rw [blk_cell hb]; rfl
  go_enter Try.func45, Try.ntmps45
  go_wp2_with fail
  refine (pair_calls h x h0 h8).mono ?_
  rintro e w1 ⟨rfl, rfl⟩
  go_wp2_with fail
  go_ret
  exact ⟨rfl, rfl⟩
set_option maxHeartbeats 1000000 in
theorem clo_fn {w : World} {g bw bh size b : Nat} {l : List Thing} (h : IsAr w g bw bh size l) (hb : w.heap[b]? = some (box (some ⟨g, 0, none⟩))) (x : Int) (h0 : 0 ≤ x) (h8 : x < 18446744073709551616) :
    Calls Try.prog 49 #[.int .u64 x, .pointer (some ⟨b, 0, none⟩)] w fun e w' => e = .returned (.bool (kindA l x == 2 || kindA l x == 5)) ∧ w = w' := by
  have hq : w.cell? ⟨b, 0, none⟩ = some (.pointer (some ⟨g, 0, none⟩)) := by rw [blk_cell hb]; rfl
  cases hk : (kindA l x == 2) <;>
  · go_enter Try.func49, Try.ntmps49
    go_wp2_with fail
    refine (kind_calls h x h0 h8).mono ?_
    rintro e w1 ⟨rfl, rfl⟩
    first
      | (go_wp2_with fail
         refine (kind_calls h x h0 h8).mono ?_
         rintro e w1 ⟨rfl, rfl⟩
         go_wp2_with fail
         go_ret
         exact ⟨rfl, rfl⟩)
      | (go_wp2_with fail
         go_ret
         exact ⟨rfl, rfl⟩)
section
variable {w : World} {g bw bh size : Nat} {l : List Thing} (h : IsAr w g bw bh size l) (x : Int) (h0 : 0 ≤ x) (h8 : x < 18446744073709551616)
include h h0 h8
theorem one_not : Calls Try.prog 21 #[.pointer (some ⟨g, 0, none⟩), .int .i64 9, .int .u64 x] w fun e w' =>
    e = .returned (.tuple #[.int .u64 (oneA l 9 x).1, .int .i64 (oneA l 9 x).2]) ∧ IsAr w' g bw bh size l ∧ Chg [] w w' := by
    rw [show oneA l 9 x = (boolP (x == 10), 0) from rfl]
    have hc := (Chg.refl [] w).alloc (box (some ⟨g, 0, none⟩))
    have hA := h.sub hc
    have hq : (w.alloc (box (some ⟨g, 0, none⟩))).cell? ⟨w.heap.size, 0, none⟩ = some (.pointer (some ⟨g, 0, none⟩)) := by rw [blk_cell (blk_new rfl)]; rfl
    have hne := func_ne
    go_enter Try.func21, Try.ntmps21
    go_wp2_with fail
    refine (asks_not (some ⟨g, 0, none⟩) _).mono ?_
    rintro e w1 ⟨rfl, rfl⟩
    go_wp2_with fail
    refine (clo_not x _).mono ?_
    rintro e w1 ⟨rfl, rfl⟩
    go_wp2_with fail
    refine (bool_calls _ _).mono ?_
    rintro e w1 ⟨rfl, rfl⟩
    go_wp2_with fail
    go_ret2
    exact ⟨rfl, hA, hc⟩
theorem one_null : Calls Try.prog 21 #[.pointer (some ⟨g, 0, none⟩), .int .i64 10, .int .u64 x] w fun e w' =>
    e = .returned (.tuple #[.int .u64 (oneA l 10 x).1, .int .i64 (oneA l 10 x).2]) ∧ IsAr w' g bw bh size l ∧ Chg [] w w' := by
    rw [show oneA l 10 x = (boolP (x == 2), 0) from rfl]
    have hc := (Chg.refl [] w).alloc (box (some ⟨g, 0, none⟩))
    have hA := h.sub hc
    have hq : (w.alloc (box (some ⟨g, 0, none⟩))).cell? ⟨w.heap.size, 0, none⟩ = some (.pointer (some ⟨g, 0, none⟩)) := by rw [blk_cell (blk_new rfl)]; rfl
    have hne := func_ne
    go_enter Try.func21, Try.ntmps21
    go_wp2_with fail
    refine (asks_null (some ⟨g, 0, none⟩) _).mono ?_
    rintro e w1 ⟨rfl, rfl⟩
    go_wp2_with fail
    refine (clo_null x _).mono ?_
    rintro e w1 ⟨rfl, rfl⟩
    go_wp2_with fail
    refine (bool_calls _ _).mono ?_
    rintro e w1 ⟨rfl, rfl⟩
    go_wp2_with fail
    go_ret2
    exact ⟨rfl, hA, hc⟩
theorem one_pair : Calls Try.prog 21 #[.pointer (some ⟨g, 0, none⟩), .int .i64 11, .int .u64 x] w fun e w' =>
    e = .returned (.tuple #[.int .u64 (oneA l 11 x).1, .int .i64 (oneA l 11 x).2]) ∧ IsAr w' g bw bh size l ∧ Chg [] w w' := by
    rw [show oneA l 11 x = (boolP (pairA l x), 0) from rfl]
    have hc := (Chg.refl [] w).alloc (box (some ⟨g, 0, none⟩))
    have hA := h.sub hc
    have hq : (w.alloc (box (some ⟨g, 0, none⟩))).cell? ⟨w.heap.size, 0, none⟩ = some (.pointer (some ⟨g, 0, none⟩)) := by rw [blk_cell (blk_new rfl)]; rfl
    have hne := func_ne
    go_enter Try.func21, Try.ntmps21
    go_wp2_with fail
    refine (asks_pair (some ⟨g, 0, none⟩) _).mono ?_
    rintro e w1 ⟨rfl, rfl⟩
    go_wp2_with fail
    refine (clo_pair hA (blk_new rfl) x h0 h8).mono ?_
    rintro e w1 ⟨rfl, rfl⟩
    go_wp2_with fail
    refine (bool_calls _ _).mono ?_
    rintro e w1 ⟨rfl, rfl⟩
    go_wp2_with fail
    go_ret2
    exact ⟨rfl, hA, hc⟩
theorem one_int : Calls Try.prog 21 #[.pointer (some ⟨g, 0, none⟩), .int .i64 15, .int .u64 x] w fun e w' =>
    e = .returned (.tuple #[.int .u64 (oneA l 15 x).1, .int .i64 (oneA l 15 x).2]) ∧ IsAr w' g bw bh size l ∧ Chg [] w w' := by
    rw [show oneA l 15 x = (boolP ((toIntP x).2), 0) from rfl]
    have hc := (Chg.refl [] w).alloc (box (some ⟨g, 0, none⟩))
    have hA := h.sub hc
    have hq : (w.alloc (box (some ⟨g, 0, none⟩))).cell? ⟨w.heap.size, 0, none⟩ = some (.pointer (some ⟨g, 0, none⟩)) := by rw [blk_cell (blk_new rfl)]; rfl
    have hne := func_ne
    go_enter Try.func21, Try.ntmps21
    go_wp2_with fail
    refine (asks_int (some ⟨g, 0, none⟩) _).mono ?_
    rintro e w1 ⟨rfl, rfl⟩
    go_wp2_with fail
    refine (clo_int x _ h0 h8).mono ?_
    rintro e w1 ⟨rfl, ⟨n, rfl⟩⟩
    go_wp2_with fail
    refine (bool_calls _ _).mono ?_
    rintro e w1 ⟨rfl, rfl⟩
    go_wp2_with fail
    go_ret2
    exact ⟨rfl, hA.drewN n, hc.draw n⟩
theorem one_name : Calls Try.prog 21 #[.pointer (some ⟨g, 0, none⟩), .int .i64 16, .int .u64 x] w fun e w' =>
    e = .returned (.tuple #[.int .u64 (oneA l 16 x).1, .int .i64 (oneA l 16 x).2]) ∧ IsAr w' g bw bh size l ∧ Chg [] w w' := by
    rw [show oneA l 16 x = (boolP ((toP 3 x).2), 0) from rfl]
    have hc := (Chg.refl [] w).alloc (box (some ⟨g, 0, none⟩))
    have hA := h.sub hc
    have hq : (w.alloc (box (some ⟨g, 0, none⟩))).cell? ⟨w.heap.size, 0, none⟩ = some (.pointer (some ⟨g, 0, none⟩)) := by rw [blk_cell (blk_new rfl)]; rfl
    have hne := func_ne
    go_enter Try.func21, Try.ntmps21
    go_wp2_with fail
    refine (asks_name (some ⟨g, 0, none⟩) _).mono ?_
    rintro e w1 ⟨rfl, rfl⟩
    go_wp2_with fail
    refine (clo_name x _ h0 h8).mono ?_
    rintro e w1 ⟨rfl, rfl⟩
    go_wp2_with fail
    refine (bool_calls _ _).mono ?_
    rintro e w1 ⟨rfl, rfl⟩
    go_wp2_with fail
    go_ret2
    exact ⟨rfl, hA, hc⟩
theorem one_fn : Calls Try.prog 21 #[.pointer (some ⟨g, 0, none⟩), .int .i64 17, .int .u64 x] w fun e w' =>
    e = .returned (.tuple #[.int .u64 (oneA l 17 x).1, .int .i64 (oneA l 17 x).2]) ∧ IsAr w' g bw bh size l ∧ Chg [] w w' := by
    rw [show oneA l 17 x = (boolP (kindA l x == 2 || kindA l x == 5), 0) from rfl]
    have hc := (Chg.refl [] w).alloc (box (some ⟨g, 0, none⟩))
    have hA := h.sub hc
    have hq : (w.alloc (box (some ⟨g, 0, none⟩))).cell? ⟨w.heap.size, 0, none⟩ = some (.pointer (some ⟨g, 0, none⟩)) := by rw [blk_cell (blk_new rfl)]; rfl
    have hne := func_ne
    go_enter Try.func21, Try.ntmps21
    go_wp2_with fail
    refine (asks_fn (some ⟨g, 0, none⟩) _).mono ?_
    rintro e w1 ⟨rfl, rfl⟩
    go_wp2_with fail
    refine (clo_fn hA (blk_new rfl) x h0 h8).mono ?_
    rintro e w1 ⟨rfl, rfl⟩
    go_wp2_with fail
    refine (bool_calls _ _).mono ?_
    rintro e w1 ⟨rfl, rfl⟩
    go_wp2_with fail
    go_ret2
    exact ⟨rfl, hA, hc⟩
set_option maxHeartbeats 1000000 in
theorem one_car : Calls Try.prog 21 #[.pointer (some ⟨g, 0, none⟩), .int .i64 13, .int .u64 x] w fun e w' =>
    e = .returned (.tuple #[.int .u64 (oneA l 13 x).1, .int .i64 (oneA l 13 x).2]) ∧ IsAr w' g bw bh size l ∧ Chg [] w w' := by
    rw [show oneA l 13 x = if pairA l x = true then getA l x 0 else (0, 100) from rfl]
    have hc := (Chg.refl [] w).alloc (box (some ⟨g, 0, none⟩))
    have hA := h.sub hc
    have hne := func_no
    cases hp : pairA l x <;>
    · have hP := pair_calls hA x h0 h8
      rw [hp] at hP
      go_enter Try.func21, Try.ntmps21
      go_wp2_with fail
      refine (asks_none (some ⟨g, 0, none⟩) 13 _ (by decide)).mono ?_
      rintro e w1 ⟨rfl, rfl⟩
      go_wp2_with fail
      refine hP.mono ?_
      rintro e w1 ⟨rfl, rfl⟩
      go_wp2_with fail
      first
        | (go_ret2; exact ⟨rfl, hA, hc⟩)
        | (refine (get_calls hA x 0 h0 h8).mono ?_
           rintro e w1 ⟨rfl, rfl⟩
           go_wp2_with fail
           go_ret2
           exact ⟨rfl, hA, hc⟩)
set_option maxHeartbeats 1000000 in
theorem one_cdr : Calls Try.prog 21 #[.pointer (some ⟨g, 0, none⟩), .int .i64 14, .int .u64 x] w fun e w' =>
    e = .returned (.tuple #[.int .u64 (oneA l 14 x).1, .int .i64 (oneA l 14 x).2]) ∧ IsAr w' g bw bh size l ∧ Chg [] w w' := by
    rw [show oneA l 14 x = if pairA l x = true then getA l x 1 else (0, 100) from rfl]
    have hc := (Chg.refl [] w).alloc (box (some ⟨g, 0, none⟩))
    have hA := h.sub hc
    have hne := func_no
    cases hp : pairA l x <;>
    · have hP := pair_calls hA x h0 h8
      rw [hp] at hP
      go_enter Try.func21, Try.ntmps21
      go_wp2_with fail
      refine (asks_none (some ⟨g, 0, none⟩) 14 _ (by decide)).mono ?_
      rintro e w1 ⟨rfl, rfl⟩
      go_wp2_with fail
      refine hP.mono ?_
      rintro e w1 ⟨rfl, rfl⟩
      go_wp2_with fail
      first
        | (go_ret2; exact ⟨rfl, hA, hc⟩)
        | (refine (get_calls hA x 1 h0 h8).mono ?_
           rintro e w1 ⟨rfl, rfl⟩
           go_wp2_with fail
           go_ret2
           exact ⟨rfl, hA, hc⟩)
set_option maxHeartbeats 1000000 in
theorem one_none (op : Int) (hop : ¬ (op = 9 ∨ op = 10 ∨ op = 11 ∨ op = 15 ∨ op = 16 ∨ op = 17)) (h13 : op ≠ 13) (h14 : op ≠ 14) : Calls Try.prog 21 #[.pointer (some ⟨g, 0, none⟩), .int .i64 op, .int .u64 x] w fun e w' =>
    e = .returned (.tuple #[.int .u64 (oneA l op x).1, .int .i64 (oneA l op x).2]) ∧ IsAr w' g bw bh size l ∧ Chg [] w w' := by
    have e : oneA l op x = (0, 1) := by
      simp only [not_or] at hop
      unfold oneA
      rw [if_neg hop.1, if_neg hop.2.1, if_neg hop.2.2.1, if_neg hop.2.2.2.1, if_neg hop.2.2.2.2.1, if_neg hop.2.2.2.2.2, if_pos (by omega)]
    rw [e]
    have hc := (Chg.refl [] w).alloc (box (some ⟨g, 0, none⟩))
    have hA := h.sub hc
    have hne := func_no
    have t1 : (op != 13) = true := by simpa using h13
    have t2 : (op != 14) = true := by simpa using h14
    have hQ := fun w => asks_none (some ⟨g, 0, none⟩) op w hop
    clear e hop h13 h14
    go_enter Try.func21, Try.ntmps21
    go_wp2_with fail
    refine (hQ _).mono ?_
    rintro e w1 ⟨rfl, rfl⟩
    go_wp2_with fail
    go_ret2
    exact ⟨rfl, hA, hc⟩
theorem one_calls (op : Int) : Calls Try.prog 21 #[.pointer (some ⟨g, 0, none⟩), .int .i64 op, .int .u64 x] w fun e w' =>
    e = .returned (.tuple #[.int .u64 (oneA l op x).1, .int .i64 (oneA l op x).2]) ∧ IsAr w' g bw bh size l ∧ Chg [] w w' := by
    by_cases c1 : op = 9
    · subst c1; exact one_not h x h0 h8
    · by_cases c2 : op = 10
      · subst c2; exact one_null h x h0 h8
      · by_cases c3 : op = 11
        · subst c3; exact one_pair h x h0 h8
        · by_cases c4 : op = 15
          · subst c4; exact one_int h x h0 h8
          · by_cases c5 : op = 16
            · subst c5; exact one_name h x h0 h8
            · by_cases c6 : op = 17
              · subst c6; exact one_fn h x h0 h8
              · by_cases c7 : op = 13
                · subst c7; exact one_car h x h0 h8
                · by_cases c8 : op = 14
                  · subst c8; exact one_cdr h x h0 h8
                  · exact one_none h x h0 h8 op (by omega) c7 c8
end
end Go.Proofs.Ytoofnpecofcjjaa.Prim

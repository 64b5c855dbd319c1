/- Plain numbers of layer 1 (word), and lemmas about them; no conditions beyond those each states. -/
import Derived.Laws.BitsLemmas
import Derived.RowKit
namespace Go.Proofs.YtkiamiphmndmcaaDoor.Word
open Go Go.RowKit
set_option linter.unusedSimpArgs false

theorem wrap_u64 (n : Int) : IntKind.u64.wrap n = n % 18446744073709551616 := by simp [IntKind.wrap, IntKind.bits, IntKind.signed]
theorem wf_u64 {n : Int} (h : (Lit.int .u64 n).wf = true) : 0 ≤ n ∧ n < 18446744073709551616 := by
  simp [Lit.wf, IntKind.min, IntKind.max, IntKind.signed, IntKind.bits] at h; omega
theorem wf_i64 {n : Int} (h : (Lit.int .i64 n).wf = true) : -9223372036854775808 ≤ n ∧ n < 9223372036854775808 := by
  simp [Lit.wf, IntKind.min, IntKind.max, IntKind.signed, IntKind.bits] at h; omega
theorem wf_u8 {n : Int} (h : (Lit.int .u8 n).wf = true) : 0 ≤ n ∧ n < 256 := by
  simp [Lit.wf, IntKind.min, IntKind.max, IntKind.signed, IntKind.bits] at h; omega
theorem wrap64_id {n : Int} (h0 : -9223372036854775808 ≤ n) (h1 : n < 9223372036854775808) : wrap64 n = n := by unfold wrap64; omega

theorem u64_mask (i : Nat) (hi : i ≤ 64) (x : Int) (h0 : 0 ≤ x) (h1 : x < 18446744073709551616) :
    Go.bits .and .u64 x (2 ^ i - 1) = x % 2 ^ i :=
  bits_mask .u64 64 (by decide) (fun n h0 h1 => by rw [wrap_u64]; omega) i hi x h0 (by omega)
theorem u64_and7 (x : Int) (h0 : 0 ≤ x) (h1 : x < 18446744073709551616) : Go.bits .and .u64 x 7 = x % 8 := by
  have := u64_mask 3 (by omega) x h0 h1; simpa using this
theorem u64_and32 (x : Int) (h0 : 0 ≤ x) (h1 : x < 18446744073709551616) : Go.bits .and .u64 x 4294967295 = x % 4294967296 := by
  have := u64_mask 32 (by omega) x h0 h1; simpa using this

theorem u64_or (i : Nat) {x y : Int} (hx : 0 ≤ x) (hx8 : x % 2 ^ i = 0) (hx' : x < 2 ^ 64) (hy : 0 ≤ y) (hy' : y < 2 ^ i) (hy1 : y < 2 ^ 64) : Go.bits .or .u64 x y = x + y :=
  bits_join .u64 64 (by decide) (fun n h0 h1 => by rw [wrap_u64]; exact Int.emod_eq_of_lt h0 (by simpa using h1)) i x y hx hx8 hx' hy hy' hy1
theorem u64_or8 {x y : Int} (hx : 0 ≤ x) (hx8 : x % 8 = 0) (hx' : x < 18446744073709551616) (hy : 0 ≤ y) (hy' : y < 8) : Go.bits .or .u64 x y = x + y :=
  u64_or 3 hx (by simpa using hx8) (by simpa using hx') hy (by simpa using hy') (by simp; omega)
theorem tdiv_ge {a : Int} (b : Int) (h : 0 ≤ a) : a.tdiv b = a / b := Int.tdiv_eq_ediv_of_nonneg h
theorem tdiv_lt {a : Int} (b : Int) (h : a ≤ 0) : a.tdiv b = -((-a) / b) := by
  have := Int.neg_tdiv (a := -a) (b := b)
  rw [Int.neg_neg] at this
  rw [this, Int.tdiv_eq_ediv_of_nonneg (by omega)]
theorem tmod_ge {a : Int} (b : Int) (h : 0 ≤ a) : a.tmod b = a % b := Int.tmod_eq_emod_of_nonneg h
theorem tmod_lt {a : Int} (b : Int) (h : a ≤ 0) : a.tmod b = -((-a) % b) := by
  have := Int.neg_tmod (a := -a) (b := b)
  rw [Int.neg_neg] at this
  rw [this, Int.tmod_eq_emod_of_nonneg (by omega)]

/-- Int. -/
def intP (n : Int) : Int × Int := if n ≤ -1099511627776 then (0, 10) else if n ≥ 1099511627776 then (0, 10) else ((n * 8) % 18446744073709551616, 0)
/-- ToInt. -/
def toIntP (w : Int) : Int × Bool :=
  if w % 8 = 0 then (if wrap64 w / 8 ≤ -1099511627776 then (0, false) else if wrap64 w / 8 ≥ 1099511627776 then (0, false) else (wrap64 w / 8, true)) else (0, false)
def boolP (b : Bool) : Int := if b = true then 18 else 10
/-- Of. -/
def ofP (k n : Int) : Int × Int := if (k = 1 ∨ k = 3 ∨ k = 4) ∧ 0 ≤ n ∧ n < 1099511627776 then (n * 8 + k, 0) else (0, 1)
/-- To. -/
def toP (k w : Int) : Int × Bool := if (k = 1 ∨ k = 3 ∨ k = 4) ∧ w % 8 = k ∧ w / 8 < 1099511627776 then (w / 8, true) else (0, false)
/-- May. -/
def mayP (w : Int) : Bool := if w % 8 = 0 then (toIntP w).2 else if w % 8 = 2 then decide (w ≤ 26) else (toP (w % 8) w).2

def isOp (op : Int) : Prop := op = 43 ∨ op = 45 ∨ op = 42 ∨ op = 47 ∨ op = 37 ∨ op = 60 ∨ op = 61
instance (op : Int) : Decidable (isOp op) := by unfold isOp; infer_instance
/-- Do. -/
def doP (op a b : Int) : Int × Int :=
  if ¬ isOp op then (0, 1)
  else if (toIntP a).2 = false ∨ (toIntP b).2 = false then (0, 11)
  else if (op = 47 ∨ op = 37) ∧ (toIntP b).1 = 0 then (0, 12)
  else if op = 43 then intP ((toIntP a).1 + (toIntP b).1)
  else if op = 45 then intP ((toIntP a).1 - (toIntP b).1)
  else if op = 42 then intP ((toIntP a).1 * (toIntP b).1)
  else if op = 47 then intP ((toIntP a).1.tdiv (toIntP b).1)
  else if op = 37 then intP ((toIntP a).1.tmod (toIntP b).1)
  else if op = 60 then (boolP (decide ((toIntP a).1 < (toIntP b).1)), 0)
  else (boolP ((toIntP a).1 == (toIntP b).1), 0)

theorem toIntP_range (w : Int) : -1099511627776 < (toIntP w).1 ∧ (toIntP w).1 < 1099511627776 := by
  unfold toIntP; (repeat' split) <;> simp <;> omega
theorem toIntP_intP {n : Int} (h : (intP n).2 = 0) : toIntP (intP n).1 = (n, true) := by
  unfold intP at h ⊢
  by_cases h1 : n ≤ -1099511627776
  · simp [h1] at h
  · by_cases h2 : n ≥ 1099511627776
    · simp [h1, h2] at h
    · rw [if_neg h1, if_neg h2]
      unfold toIntP
      have e : wrap64 ((n * 8) % 18446744073709551616) / 8 = n := by unfold wrap64; omega
      simp only [e]
      rw [if_pos (by omega), if_neg h1, if_neg h2]
theorem intP_toIntP {w : Int} (h0 : 0 ≤ w) (h1 : w < 18446744073709551616) (h : (toIntP w).2 = true) : intP (toIntP w).1 = (w, 0) := by
  unfold toIntP at h ⊢
  by_cases h2 : w % 8 = 0
  · rw [if_pos h2] at h ⊢
    by_cases h3 : wrap64 w / 8 ≤ -1099511627776
    · simp [h3] at h
    · rw [if_neg h3] at h ⊢
      by_cases h4 : wrap64 w / 8 ≥ 1099511627776
      · simp [h4] at h
      · rw [if_neg h4]
        unfold intP
        rw [if_neg h3, if_neg h4]
        have : (wrap64 w / 8 * 8) % 18446744073709551616 = w := by unfold wrap64; omega
        rw [this]
  · simp [h2] at h
theorem toIntP_not {w : Int} (h : (toIntP w).2 = false) : toIntP w = (0, false) := by
  revert h; unfold toIntP; (repeat' split) <;> simp
theorem intP_ok (n : Int) : (intP n).2 = 0 ↔ (-1099511627776 < n ∧ n < 1099511627776) := by
  unfold intP; (repeat' split) <;> simp <;> omega
theorem intP_no {n : Int} (h : ¬ (-1099511627776 < n ∧ n < 1099511627776)) : intP n = (0, 10) := by
  unfold intP; (repeat' split) <;> first | rfl | omega
theorem intP_yes {n : Int} (h : (-1099511627776 < n ∧ n < 1099511627776)) : intP n = ((n * 8) % 18446744073709551616, 0) := by
  unfold intP; rw [if_neg (by omega), if_neg (by omega)]
theorem intP_wf (n : Int) : 0 ≤ (intP n).1 ∧ (intP n).1 < 18446744073709551616 := by
  unfold intP; (repeat' split) <;> simp <;> omega

/-- the product in two words -/
theorem mul_hi (a b : Int) (ha : 0 ≤ a) (ha' : a < 18446744073709551616) (hb : 0 ≤ b) (hb' : b < 18446744073709551616) :
    IntKind.u64.wrap ((IntKind.u64.wrap ((IntKind.u64.wrap ((a / 4294967296) * (b / 4294967296))) + ((IntKind.u64.wrap ((IntKind.u64.wrap ((a / 4294967296) * (Go.bits .and .u64 b 4294967295))) + ((IntKind.u64.wrap ((Go.bits .and .u64 a 4294967295) * (Go.bits .and .u64 b 4294967295))) / 4294967296))) / 4294967296))) + ((IntKind.u64.wrap ((Go.bits .and .u64 (IntKind.u64.wrap ((IntKind.u64.wrap ((a / 4294967296) * (Go.bits .and .u64 b 4294967295))) + ((IntKind.u64.wrap ((Go.bits .and .u64 a 4294967295) * (Go.bits .and .u64 b 4294967295))) / 4294967296))) 4294967295) + (IntKind.u64.wrap ((Go.bits .and .u64 a 4294967295) * (b / 4294967296))))) / 4294967296))
      = a * b / 18446744073709551616 := by
  rw [u64_and32 a ha ha', u64_and32 b hb hb']
  have r : ∀ x y : Int, 0 ≤ x → x ≤ 4294967295 → 0 ≤ y → y ≤ 4294967295 → 0 ≤ x * y ∧ x * y ≤ 18446744065119617025 := by
    intro x y h1 h2 h3 h4
    exact ⟨Int.mul_nonneg h1 h3, Int.le_trans (Int.mul_le_mul h2 h4 h3 (by omega)) (by omega)⟩
  have e : a * b = (a / 4294967296) * (b / 4294967296) * 18446744073709551616 + ((a / 4294967296) * (b % 4294967296) + (a % 4294967296) * (b / 4294967296)) * 4294967296 + (a % 4294967296) * (b % 4294967296) := by
    have h1 : a = 4294967296 * (a / 4294967296) + a % 4294967296 := by omega
    have h2 : b = 4294967296 * (b / 4294967296) + b % 4294967296 := by omega
    generalize a / 4294967296 = p at *
    generalize a % 4294967296 = q at *
    generalize b / 4294967296 = s at *
    generalize b % 4294967296 = t at *
    subst h1 h2
    have g1 : 4294967296 * p * (4294967296 * s) = 18446744073709551616 * (p * s) := by rw [Int.mul_assoc, Int.mul_left_comm p]; omega
    have g2 : 4294967296 * p * t = 4294967296 * (p * t) := Int.mul_assoc _ _ _
    have g3 : q * (4294967296 * s) = 4294967296 * (q * s) := Int.mul_left_comm _ _ _
    rw [Int.add_mul, Int.mul_add, Int.mul_add, g1, g2, g3]
    omega
  have r1 := r (a / 4294967296) (b / 4294967296) (by omega) (by omega) (by omega) (by omega)
  have r2 := r (a / 4294967296) (b % 4294967296) (by omega) (by omega) (by omega) (by omega)
  have r3 := r (a % 4294967296) (b / 4294967296) (by omega) (by omega) (by omega) (by omega)
  have r4 := r (a % 4294967296) (b % 4294967296) (by omega) (by omega) (by omega) (by omega)
  rw [e]
  generalize (a / 4294967296) * (b / 4294967296) = p at *
  generalize (a / 4294967296) * (b % 4294967296) = q at *
  generalize (a % 4294967296) * (b / 4294967296) = s at *
  generalize (a % 4294967296) * (b % 4294967296) = t at *
  have w1 : IntKind.u64.wrap q = q := by rw [wrap_u64]; omega
  have w2 : IntKind.u64.wrap t = t := by rw [wrap_u64]; omega
  have w3 : IntKind.u64.wrap s = s := by rw [wrap_u64]; omega
  have w4 : IntKind.u64.wrap p = p := by rw [wrap_u64]; omega
  rw [w1, w2, w3, w4]
  have w5 : IntKind.u64.wrap (q + t / 4294967296) = q + t / 4294967296 := by rw [wrap_u64]; omega
  rw [w5, u64_and32 _ (by omega) (by omega)]
  simp only [wrap_u64]
  omega

/-- the least of a sum, as the reference's product tells it: what is kept is the product, cut at MaxInt -/
def cut (n : Int) : Int := if n < 1099511627776 then n else 1099511627776
theorem cut_step_odd (n x y : Int) (hn : 0 ≤ n) (hx : 0 ≤ x) (hy : 0 ≤ y) : cut (cut (n + x) + cut (x + x) * y) = cut (n + x * (2 * y + 1)) := by
  have e : x * (2 * y + 1) = 2 * (x * y) + x := by simp only [Int.mul_add, Int.mul_one, Int.mul_left_comm]
  have hxy : 0 ≤ x * y := Int.mul_nonneg hx hy
  rw [e]
  by_cases h2 : x + x < 1099511627776
  · have e2 : cut (x + x) = x + x := if_pos h2
    rw [e2, Int.add_mul]
    unfold cut
    repeat' split
    all_goals omega
  · have e2 : cut (x + x) = 1099511627776 := if_neg h2
    rw [e2]
    by_cases h0 : y = 0
    · subst h0; unfold cut; (repeat' split) <;> omega
    · have : x ≤ x * y := by
        have := Int.mul_le_mul_of_nonneg_left (show (1 : Int) ≤ y by omega) hx
        omega
      unfold cut; (repeat' split) <;> omega
theorem cut_step_even (n x y : Int) (hn : 0 ≤ n) (hx : 0 ≤ x) (hy : 0 ≤ y) : cut (n + cut (x + x) * y) = cut (n + x * (2 * y)) := by
  have e : x * (2 * y) = 2 * (x * y) := by simp only [Int.mul_left_comm]
  have hxy : 0 ≤ x * y := Int.mul_nonneg hx hy
  rw [e]
  by_cases h2 : x + x < 1099511627776
  · have e2 : cut (x + x) = x + x := if_pos h2
    rw [e2, Int.add_mul]
    unfold cut
    repeat' split
    all_goals omega
  · have e2 : cut (x + x) = 1099511627776 := if_neg h2
    rw [e2]
    by_cases h0 : y = 0
    · subst h0; simp
    · have : x ≤ x * y := by
        have := Int.mul_le_mul_of_nonneg_left (show (1 : Int) ≤ y by omega) hx
        omega
      unfold cut; (repeat' split) <;> omega
theorem cut_range (n : Int) (h : 0 ≤ n) : 0 ≤ cut n ∧ cut n ≤ 1099511627776 := by unfold cut; split <;> omega
theorem abs_mul (a b : Int) : ((a.natAbs : Int)) * b.natAbs = (a * b).natAbs := by rw [Int.natAbs_mul]; simp
/-- of words that are numbers -/
theorem do_nums {op x y : Int} (ho : isOp op) (hx : (intP x).2 = 0) (hy : (intP y).2 = 0) (hz : ¬ ((op = 47 ∨ op = 37) ∧ y = 0)) :
    doP op (intP x).1 (intP y).1 = (if op = 43 then intP (x + y) else if op = 45 then intP (x - y) else if op = 42 then intP (x * y)
      else if op = 47 then intP (x.tdiv y) else if op = 37 then intP (x.tmod y) else if op = 60 then (boolP (decide (x < y)), 0) else (boolP (x == y), 0)) := by
  unfold doP
  rw [toIntP_intP hx, toIntP_intP hy, if_neg (fun h => h ho), if_neg (by simp), if_neg hz]
theorem do_add {x y : Int} (hx : (intP x).2 = 0) (hy : (intP y).2 = 0) : doP 43 (intP x).1 (intP y).1 = intP (x + y) := by
  rw [do_nums (by simp [isOp]) hx hy (by simp)]; rfl
theorem do_sub {x y : Int} (hx : (intP x).2 = 0) (hy : (intP y).2 = 0) : doP 45 (intP x).1 (intP y).1 = intP (x - y) := by
  rw [do_nums (by simp [isOp]) hx hy (by simp)]; rfl
theorem do_mul {x y : Int} (hx : (intP x).2 = 0) (hy : (intP y).2 = 0) : doP 42 (intP x).1 (intP y).1 = intP (x * y) := by
  rw [do_nums (by simp [isOp]) hx hy (by simp)]; rfl
theorem do_quo {x y : Int} (hx : (intP x).2 = 0) (hy : (intP y).2 = 0) (h0 : y ≠ 0) : doP 47 (intP x).1 (intP y).1 = intP (x.tdiv y) := by
  rw [do_nums (by simp [isOp]) hx hy (by simp [h0])]; rfl
theorem do_rem {x y : Int} (hx : (intP x).2 = 0) (hy : (intP y).2 = 0) (h0 : y ≠ 0) : doP 37 (intP x).1 (intP y).1 = intP (x.tmod y) := by
  rw [do_nums (by simp [isOp]) hx hy (by simp [h0])]; rfl
theorem do_quo0 {x y : Int} (hx : (intP x).2 = 0) (hy : (intP y).2 = 0) (h0 : y = 0) : doP 47 (intP x).1 (intP y).1 = (0, 12) := by
  unfold doP; rw [toIntP_intP hx, toIntP_intP hy, if_neg (by simp [isOp]), if_neg (by simp), if_pos ⟨.inl rfl, h0⟩]
theorem do_rem0 {x y : Int} (hx : (intP x).2 = 0) (hy : (intP y).2 = 0) (h0 : y = 0) : doP 37 (intP x).1 (intP y).1 = (0, 12) := by
  unfold doP; rw [toIntP_intP hx, toIntP_intP hy, if_neg (by simp [isOp]), if_neg (by simp), if_pos ⟨.inr rfl, h0⟩]
theorem do_less {x y : Int} (hx : (intP x).2 = 0) (hy : (intP y).2 = 0) : doP 60 (intP x).1 (intP y).1 = (boolP (decide (x < y)), 0) := by
  rw [do_nums (by simp [isOp]) hx hy (by simp)]; rfl
theorem do_same {x y : Int} (hx : (intP x).2 = 0) (hy : (intP y).2 = 0) : doP 61 (intP x).1 (intP y).1 = (boolP (x == y), 0) := by
  rw [do_nums (by simp [isOp]) hx hy (by simp)]; rfl
theorem tmod_M (a : Int) {m : Int} (hm : 0 < m) : -m < a.tmod m ∧ a.tmod m < m := by
  have h := Int.natAbs_tmod a m
  have : a.natAbs % m.natAbs < m.natAbs := Nat.mod_lt _ (by omega)
  omega
theorem intP_inj {x y : Int} (hx : (intP x).2 = 0) (hy : (intP y).2 = 0) (h : (intP x).1 = (intP y).1) : x = y := by
  have h1 := toIntP_intP hx
  rw [h, toIntP_intP hy] at h1
  exact (congrArg Prod.fst h1).symm
theorem ofP_wf (k n : Int) : 0 ≤ (ofP k n).1 ∧ (ofP k n).1 < 18446744073709551616 := by
  unfold ofP; split <;> simp <;> omega
theorem ofP_ok (k n : Int) : (ofP k n).2 = 0 ↔ ((k = 1 ∨ k = 3 ∨ k = 4) ∧ 0 ≤ n ∧ n < 1099511627776) := by
  unfold ofP; split <;> simp_all
theorem toP_ok (k w : Int) : (toP k w).2 = true ↔ ((k = 1 ∨ k = 3 ∨ k = 4) ∧ w % 8 = k ∧ w / 8 < 1099511627776) := by
  unfold toP; split <;> simp_all
theorem toP_ofP {k n : Int} (h : (ofP k n).2 = 0) : toP k (ofP k n).1 = (n, true) := by
  have h' := (ofP_ok k n).1 h
  unfold ofP toP
  rw [if_pos h']
  simp only
  rw [if_pos ⟨h'.1, by omega, by omega⟩, show (n * 8 + k) / 8 = n by omega]
theorem ofP_toP {k w : Int} (h0 : 0 ≤ w) (h : (toP k w).2 = true) : ofP k (toP k w).1 = (w, 0) := by
  have h' := (toP_ok k w).1 h
  unfold toP ofP
  rw [if_pos h']
  simp only
  rw [if_pos ⟨h'.1, by omega, by omega⟩, show w / 8 * 8 + k = w by omega]
theorem toP_range (k w : Int) (h0 : 0 ≤ w) : 0 ≤ (toP k w).1 ∧ (toP k w).1 < 1099511627776 := by
  unfold toP; split <;> simp <;> omega
theorem mayP_ofP {k n : Int} (h : (ofP k n).2 = 0) : mayP (ofP k n).1 = true := by
  have h' := (ofP_ok k n).1 h
  have hm : (ofP k n).1 % 8 = k := by unfold ofP; rw [if_pos h']; simp only; omega
  have ht := toP_ofP h
  unfold mayP
  rw [hm, if_neg (by omega), if_neg (by omega), ht]
theorem mayP_intP {n : Int} (h : (intP n).2 = 0) : mayP (intP n).1 = true := by
  have hm : (intP n).1 % 8 = 0 := by rw [intP_yes ((intP_ok n).1 h)]; simp only; omega
  unfold mayP
  rw [if_pos hm, toIntP_intP h]
theorem i64_and15 (x : Int) : Go.bits .and .i64 x 15 = x % 16 := by
  have hk : IntKind.i64.bits = 64 := rfl
  simp only [bits, hk, BitVec.toNat_and, BitVec.toNat_ofInt]
  rw [show ((15 : Int) % ((2 ^ 64 : Nat) : Int)).toNat = 2 ^ 4 - 1 by decide, Nat.and_two_pow_sub_one_eq_mod, IntKind.wrap_i64]
  have h := Int.emod_nonneg x (show ((2 ^ 64 : Nat) : Int) ≠ 0 by decide)
  simp at h ⊢
  omega
theorem u8_and1 (x : Int) (h0 : 0 ≤ x) (h1 : x < 256) : Go.bits .and .u8 x 1 = x % 2 := by
  have := bits_mask .u8 8 (by decide) wraps_u8 1 (by decide) x h0 (by simpa using h1)
  simpa using this
end Go.Proofs.YtkiamiphmndmcaaDoor.Word

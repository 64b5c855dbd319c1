/- Plain numbers of layer 1 (word), and lemmas about them; no conditions beyond those each states. -/
import Derived.Laws.BitsLemmas
import Derived.RowKit
import Derived.Test.YtomhkemdafiphaaGreatDoorProg
import Derived.Below
import Derived.Deep.Draws
import Derived.Deep.AppendLies
import Derived.Maps.AppendAt
import Derived.OwnWalk
import Derived.Laws.BytesArg
import Derived.Laws.MakeOwn
import Derived.Laws.OwnMore
import Derived.Deep.OwnRows
import Derived.Tactics
import Derived.Lib.ConvBytes
import Derived.Laws.Slices
import Derived.WalkKit
import Derived.KernelRfl
import Derived.RowKit3
import Derived.Deep.LoopGhost
import Derived.Deep.QuietTactic
import Derived.BigQuiet
import Derived.WideLaws
import Derived.Deep.DeepCutAuto
import Derived.Deep.CutBlock
import Derived.Deep.RegionHeld3
import Derived.Laws.Rows
import Derived.Lib.AppendStr
import Derived.ArgAppend
import Derived.Laws.IdiomCopy
import Derived.OrdersHeld
import Derived.Lib.Hide
import Derived.StillTailTactics
import Derived.Test.YtomhkemdafiphaaGreatDoorAppStep
namespace Go.Proofs.YtomhkemdafiphaaGreatDoor.Word
open Go Go.RowKit
set_option linter.unusedSimpArgs false

theorem wrap_u64 (n : Int) : IntKind.u64.wrap n = n % 18446744073709551616 := by simp [IntKind.wrap, IntKind.bits, IntKind.signed]
theorem wf_u64 {n : Int} (h : (Lit.int .u64 n).wf = true) : 0 ≤ n ∧ n < 18446744073709551616 := by
  simp [Lit.wf, IntKind.min, IntKind.max, IntKind.signed, IntKind.bits] at h; omega
theorem wf_i64 {n : Int} (h : (Lit.int .i64 n).wf = true) : -9223372036854775808 ≤ n ∧ n < 9223372036854775808 := by
  simp [Lit.wf, IntKind.min, IntKind.max, IntKind.signed, IntKind.bits] at h; omega
theorem wf_u8 {n : Int} (h : (Lit.int .u8 n).wf = true) : 0 ≤ n ∧ n < 256 := by
  simp [Lit.wf, IntKind.min, IntKind.max, IntKind.signed, IntKind.bits] at h; omega
theorem wrap64_id {n : Int} (h0 : -9223372036854775808 ≤ n) (h1 : n < 9223372036854775808) : wrap64 n = n := by unfold wrap64; omega

theorem u64_mask (i : Nat) (hi : i ≤ 64) (x : Int) (h0 : 0 ≤ x) (h1 : x < 18446744073709551616) :
    Go.bits .and .u64 x (2 ^ i - 1) = x % 2 ^ i :=
  bits_mask .u64 64 (by decide) (fun n h0 h1 => by rw [wrap_u64]; omega) i hi x h0 (by omega)
theorem u64_and7 (x : Int) (h0 : 0 ≤ x) (h1 : x < 18446744073709551616) : Go.bits .and .u64 x 7 = x % 8 := by
  have := u64_mask 3 (by omega) x h0 h1; simpa using this
theorem u64_and32 (x : Int) (h0 : 0 ≤ x) (h1 : x < 18446744073709551616) : Go.bits .and .u64 x 4294967295 = x % 4294967296 := by
  have := u64_mask 32 (by omega) x h0 h1; simpa using this

theorem u64_or (i : Nat) {x y : Int} (hx : 0 ≤ x) (hx8 : x % 2 ^ i = 0) (hx' : x < 2 ^ 64) (hy : 0 ≤ y) (hy' : y < 2 ^ i) (hy1 : y < 2 ^ 64) : Go.bits .or .u64 x y = x + y :=
  bits_join .u64 64 (by decide) (fun n h0 h1 => by rw [wrap_u64]; exact Int.emod_eq_of_lt h0 (by simpa using h1)) i x y hx hx8 hx' hy hy' hy1
theorem u64_or8 {x y : Int} (hx : 0 ≤ x) (hx8 : x % 8 = 0) (hx' : x < 18446744073709551616) (hy : 0 ≤ y) (hy' : y < 8) : Go.bits .or .u64 x y = x + y :=
  u64_or 3 hx (by simpa using hx8) (by simpa using hx') hy (by simpa using hy') (by simp; omega)
theorem tdiv_ge {a : Int} (b : Int) (h : 0 ≤ a) : a.tdiv b = a / b := Int.tdiv_eq_ediv_of_nonneg h
theorem tdiv_lt {a : Int} (b : Int) (h : a ≤ 0) : a.tdiv b = -((-a) / b) := by
  have := Int.neg_tdiv (a := -a) (b := b)
  rw [Int.neg_neg] at this
  rw [this, Int.tdiv_eq_ediv_of_nonneg (by omega)]
theorem tmod_ge {a : Int} (b : Int) (h : 0 ≤ a) : a.tmod b = a % b := Int.tmod_eq_emod_of_nonneg h
theorem tmod_lt {a : Int} (b : Int) (h : a ≤ 0) : a.tmod b = -((-a) % b) := by
  have := Int.neg_tmod (a := -a) (b := b)
  rw [Int.neg_neg] at this
  rw [this, Int.tmod_eq_emod_of_nonneg (by omega)]

/-- Int. -/
def intP (n : Int) : Int × Int := if n ≤ -1099511627776 then (0, 10) else if n ≥ 1099511627776 then (0, 10) else ((n * 8) % 18446744073709551616, 0)
/-- ToInt. -/
def toIntP (w : Int) : Int × Bool :=
  if w % 8 = 0 then (if wrap64 w / 8 ≤ -1099511627776 then (0, false) else if wrap64 w / 8 ≥ 1099511627776 then (0, false) else (wrap64 w / 8, true)) else (0, false)
def boolP (b : Bool) : Int := if b = true then 18 else 10
/-- Of. -/
def ofP (k n : Int) : Int × Int := if (k = 1 ∨ k = 3 ∨ k = 4) ∧ 0 ≤ n ∧ n < 1099511627776 then (n * 8 + k, 0) else (0, 1)
/-- To. -/
def toP (k w : Int) : Int × Bool := if (k = 1 ∨ k = 3 ∨ k = 4) ∧ w % 8 = k ∧ w / 8 < 1099511627776 then (w / 8, true) else (0, false)
/-- May. -/
def mayP (w : Int) : Bool := if w % 8 = 0 then (toIntP w).2 else if w % 8 = 2 then decide (w ≤ 26) else (toP (w % 8) w).2

def isOp (op : Int) : Prop := op = 43 ∨ op = 45 ∨ op = 42 ∨ op = 47 ∨ op = 37 ∨ op = 60 ∨ op = 61
instance (op : Int) : Decidable (isOp op) := by unfold isOp; infer_instance
/-- Do. -/
def doP (op a b : Int) : Int × Int :=
  if ¬ isOp op then (0, 1)
  else if (toIntP a).2 = false ∨ (toIntP b).2 = false then (0, 11)
  else if (op = 47 ∨ op = 37) ∧ (toIntP b).1 = 0 then (0, 12)
  else if op = 43 then intP ((toIntP a).1 + (toIntP b).1)
  else if op = 45 then intP ((toIntP a).1 - (toIntP b).1)
  else if op = 42 then intP ((toIntP a).1 * (toIntP b).1)
  else if op = 47 then intP ((toIntP a).1.tdiv (toIntP b).1)
  else if op = 37 then intP ((toIntP a).1.tmod (toIntP b).1)
  else if op = 60 then (boolP (decide ((toIntP a).1 < (toIntP b).1)), 0)
  else (boolP ((toIntP a).1 == (toIntP b).1), 0)

theorem toIntP_range (w : Int) : -1099511627776 < (toIntP w).1 ∧ (toIntP w).1 < 1099511627776 := by
  unfold toIntP; (repeat' split) <;> simp <;> omega
theorem toIntP_intP {n : Int} (h : (intP n).2 = 0) : toIntP (intP n).1 = (n, true) := by
  unfold intP at h ⊢
  by_cases h1 : n ≤ -1099511627776
  · simp [h1] at h
  · by_cases h2 : n ≥ 1099511627776
    · simp [h1, h2] at h
    · rw [if_neg h1, if_neg h2]
      unfold toIntP
      have e : wrap64 ((n * 8) % 18446744073709551616) / 8 = n := by unfold wrap64; omega
      simp only [e]
      rw [if_pos (by omega), if_neg h1, if_neg h2]
theorem intP_toIntP {w : Int} (h0 : 0 ≤ w) (h1 : w < 18446744073709551616) (h : (toIntP w).2 = true) : intP (toIntP w).1 = (w, 0) := by
  unfold toIntP at h ⊢
  by_cases h2 : w % 8 = 0
  · rw [if_pos h2] at h ⊢
    by_cases h3 : wrap64 w / 8 ≤ -1099511627776
    · simp [h3] at h
    · rw [if_neg h3] at h ⊢
      by_cases h4 : wrap64 w / 8 ≥ 1099511627776
      · simp [h4] at h
      · rw [if_neg h4]
        unfold intP
        rw [if_neg h3, if_neg h4]
        have : (wrap64 w / 8 * 8) % 18446744073709551616 = w := by unfold wrap64; omega
        rw [this]
  · simp [h2] at h
theorem toIntP_not {w : Int} (h : (toIntP w).2 = false) : toIntP w = (0, false) := by
  revert h; unfold toIntP; (repeat' split) <;> simp
theorem intP_ok (n : Int) : (intP n).2 = 0 ↔ (-1099511627776 < n ∧ n < 1099511627776) := by
  unfold intP; (repeat' split) <;> simp <;> omega
theorem intP_no {n : Int} (h : ¬ (-1099511627776 < n ∧ n < 1099511627776)) : intP n = (0, 10) := by
  unfold intP; (repeat' split) <;> first | rfl | omega
theorem intP_yes {n : Int} (h : (-1099511627776 < n ∧ n < 1099511627776)) : intP n = ((n * 8) % 18446744073709551616, 0) := by
  unfold intP; rw [if_neg (by omega), if_neg (by omega)]
theorem intP_wf (n : Int) : 0 ≤ (intP n).1 ∧ (intP n).1 < 18446744073709551616 := by
  unfold intP; (repeat' split) <;> simp <;> omega

/-- the product in two words -/
theorem mul_hi (a b : Int) (ha : 0 ≤ a) (ha' : a < 18446744073709551616) (hb : 0 ≤ b) (hb' : b < 18446744073709551616) :
    IntKind.u64.wrap ((IntKind.u64.wrap ((IntKind.u64.wrap ((a / 4294967296) * (b / 4294967296))) + ((IntKind.u64.wrap ((IntKind.u64.wrap ((a / 4294967296) * (Go.bits .and .u64 b 4294967295))) + ((IntKind.u64.wrap ((Go.bits .and .u64 a 4294967295) * (Go.bits .and .u64 b 4294967295))) / 4294967296))) / 4294967296))) + ((IntKind.u64.wrap ((Go.bits .and .u64 (IntKind.u64.wrap ((IntKind.u64.wrap ((a / 4294967296) * (Go.bits .and .u64 b 4294967295))) + ((IntKind.u64.wrap ((Go.bits .and .u64 a 4294967295) * (Go.bits .and .u64 b 4294967295))) / 4294967296))) 4294967295) + (IntKind.u64.wrap ((Go.bits .and .u64 a 4294967295) * (b / 4294967296))))) / 4294967296))
      = a * b / 18446744073709551616 := by
  rw [u64_and32 a ha ha', u64_and32 b hb hb']
  have r : ∀ x y : Int, 0 ≤ x → x ≤ 4294967295 → 0 ≤ y → y ≤ 4294967295 → 0 ≤ x * y ∧ x * y ≤ 18446744065119617025 := by
    intro x y h1 h2 h3 h4
    exact ⟨Int.mul_nonneg h1 h3, Int.le_trans (Int.mul_le_mul h2 h4 h3 (by omega)) (by omega)⟩
  have e : a * b = (a / 4294967296) * (b / 4294967296) * 18446744073709551616 + ((a / 4294967296) * (b % 4294967296) + (a % 4294967296) * (b / 4294967296)) * 4294967296 + (a % 4294967296) * (b % 4294967296) := by
    have h1 : a = 4294967296 * (a / 4294967296) + a % 4294967296 := by omega
    have h2 : b = 4294967296 * (b / 4294967296) + b % 4294967296 := by omega
    generalize a / 4294967296 = p at *
    generalize a % 4294967296 = q at *
    generalize b / 4294967296 = s at *
    generalize b % 4294967296 = t at *
    subst h1 h2
    have g1 : 4294967296 * p * (4294967296 * s) = 18446744073709551616 * (p * s) := by rw [Int.mul_assoc, Int.mul_left_comm p]; omega
    have g2 : 4294967296 * p * t = 4294967296 * (p * t) := Int.mul_assoc _ _ _
    have g3 : q * (4294967296 * s) = 4294967296 * (q * s) := Int.mul_left_comm _ _ _
    rw [Int.add_mul, Int.mul_add, Int.mul_add, g1, g2, g3]
    omega
  have r1 := r (a / 4294967296) (b / 4294967296) (by omega) (by omega) (by omega) (by omega)
  have r2 := r (a / 4294967296) (b % 4294967296) (by omega) (by omega) (by omega) (by omega)
  have r3 := r (a % 4294967296) (b / 4294967296) (by omega) (by omega) (by omega) (by omega)
  have r4 := r (a % 4294967296) (b % 4294967296) (by omega) (by omega) (by omega) (by omega)
  rw [e]
  generalize (a / 4294967296) * (b / 4294967296) = p at *
  generalize (a / 4294967296) * (b % 4294967296) = q at *
  generalize (a % 4294967296) * (b / 4294967296) = s at *
  generalize (a % 4294967296) * (b % 4294967296) = t at *
  have w1 : IntKind.u64.wrap q = q := by rw [wrap_u64]; omega
  have w2 : IntKind.u64.wrap t = t := by rw [wrap_u64]; omega
  have w3 : IntKind.u64.wrap s = s := by rw [wrap_u64]; omega
  have w4 : IntKind.u64.wrap p = p := by rw [wrap_u64]; omega
  rw [w1, w2, w3, w4]
  have w5 : IntKind.u64.wrap (q + t / 4294967296) = q + t / 4294967296 := by rw [wrap_u64]; omega
  rw [w5, u64_and32 _ (by omega) (by omega)]
  simp only [wrap_u64]
  omega

/-- the least of a sum, as the reference's product tells it: what is kept is the product, cut at MaxInt -/
def cut (n : Int) : Int := if n < 1099511627776 then n else 1099511627776
theorem cut_step_odd (n x y : Int) (hn : 0 ≤ n) (hx : 0 ≤ x) (hy : 0 ≤ y) : cut (cut (n + x) + cut (x + x) * y) = cut (n + x * (2 * y + 1)) := by
  have e : x * (2 * y + 1) = 2 * (x * y) + x := by simp only [Int.mul_add, Int.mul_one, Int.mul_left_comm]
  have hxy : 0 ≤ x * y := Int.mul_nonneg hx hy
  rw [e]
  by_cases h2 : x + x < 1099511627776
  · have e2 : cut (x + x) = x + x := if_pos h2
    rw [e2, Int.add_mul]
    unfold cut
    repeat' split
    all_goals omega
  · have e2 : cut (x + x) = 1099511627776 := if_neg h2
    rw [e2]
    by_cases h0 : y = 0
    · subst h0; unfold cut; (repeat' split) <;> omega
    · have : x ≤ x * y := by
        have := Int.mul_le_mul_of_nonneg_left (show (1 : Int) ≤ y by omega) hx
        omega
      unfold cut; (repeat' split) <;> omega
theorem cut_step_even (n x y : Int) (hn : 0 ≤ n) (hx : 0 ≤ x) (hy : 0 ≤ y) : cut (n + cut (x + x) * y) = cut (n + x * (2 * y)) := by
  have e : x * (2 * y) = 2 * (x * y) := by simp only [Int.mul_left_comm]
  have hxy : 0 ≤ x * y := Int.mul_nonneg hx hy
  rw [e]
  by_cases h2 : x + x < 1099511627776
  · have e2 : cut (x + x) = x + x := if_pos h2
    rw [e2, Int.add_mul]
    unfold cut
    repeat' split
    all_goals omega
  · have e2 : cut (x + x) = 1099511627776 := if_neg h2
    rw [e2]
    by_cases h0 : y = 0
    · subst h0; simp
    · have : x ≤ x * y := by
        have := Int.mul_le_mul_of_nonneg_left (show (1 : Int) ≤ y by omega) hx
        omega
      unfold cut; (repeat' split) <;> omega
theorem cut_range (n : Int) (h : 0 ≤ n) : 0 ≤ cut n ∧ cut n ≤ 1099511627776 := by unfold cut; split <;> omega
theorem abs_mul (a b : Int) : ((a.natAbs : Int)) * b.natAbs = (a * b).natAbs := by rw [Int.natAbs_mul]; simp
/-- of words that are numbers -/
theorem do_nums {op x y : Int} (ho : isOp op) (hx : (intP x).2 = 0) (hy : (intP y).2 = 0) (hz : ¬ ((op = 47 ∨ op = 37) ∧ y = 0)) :
    doP op (intP x).1 (intP y).1 = (if op = 43 then intP (x + y) else if op = 45 then intP (x - y) else if op = 42 then intP (x * y)
      else if op = 47 then intP (x.tdiv y) else if op = 37 then intP (x.tmod y) else if op = 60 then (boolP (decide (x < y)), 0) else (boolP (x == y), 0)) := by
  unfold doP
  rw [toIntP_intP hx, toIntP_intP hy, if_neg (fun h => h ho), if_neg (by simp), if_neg hz]
theorem do_add {x y : Int} (hx : (intP x).2 = 0) (hy : (intP y).2 = 0) : doP 43 (intP x).1 (intP y).1 = intP (x + y) := by
  rw [do_nums (by simp [isOp]) hx hy (by simp)]; rfl
theorem do_sub {x y : Int} (hx : (intP x).2 = 0) (hy : (intP y).2 = 0) : doP 45 (intP x).1 (intP y).1 = intP (x - y) := by
  rw [do_nums (by simp [isOp]) hx hy (by simp)]; rfl
theorem do_mul {x y : Int} (hx : (intP x).2 = 0) (hy : (intP y).2 = 0) : doP 42 (intP x).1 (intP y).1 = intP (x * y) := by
  rw [do_nums (by simp [isOp]) hx hy (by simp)]; rfl
theorem do_quo {x y : Int} (hx : (intP x).2 = 0) (hy : (intP y).2 = 0) (h0 : y ≠ 0) : doP 47 (intP x).1 (intP y).1 = intP (x.tdiv y) := by
  rw [do_nums (by simp [isOp]) hx hy (by simp [h0])]; rfl
theorem do_rem {x y : Int} (hx : (intP x).2 = 0) (hy : (intP y).2 = 0) (h0 : y ≠ 0) : doP 37 (intP x).1 (intP y).1 = intP (x.tmod y) := by
  rw [do_nums (by simp [isOp]) hx hy (by simp [h0])]; rfl
theorem do_quo0 {x y : Int} (hx : (intP x).2 = 0) (hy : (intP y).2 = 0) (h0 : y = 0) : doP 47 (intP x).1 (intP y).1 = (0, 12) := by
  unfold doP; rw [toIntP_intP hx, toIntP_intP hy, if_neg (by simp [isOp]), if_neg (by simp), if_pos ⟨.inl rfl, h0⟩]
theorem do_rem0 {x y : Int} (hx : (intP x).2 = 0) (hy : (intP y).2 = 0) (h0 : y = 0) : doP 37 (intP x).1 (intP y).1 = (0, 12) := by
  unfold doP; rw [toIntP_intP hx, toIntP_intP hy, if_neg (by simp [isOp]), if_neg (by simp), if_pos ⟨.inr rfl, h0⟩]
theorem do_less {x y : Int} (hx : (intP x).2 = 0) (hy : (intP y).2 = 0) : doP 60 (intP x).1 (intP y).1 = (boolP (decide (x < y)), 0) := by
  rw [do_nums (by simp [isOp]) hx hy (by simp)]; rfl
theorem do_same {x y : Int} (hx : (intP x).2 = 0) (hy : (intP y).2 = 0) : doP 61 (intP x).1 (intP y).1 = (boolP (x == y), 0) := by
  rw [do_nums (by simp [isOp]) hx hy (by simp)]; rfl
theorem tmod_M (a : Int) {m : Int} (hm : 0 < m) : -m < a.tmod m ∧ a.tmod m < m := by
  have h := Int.natAbs_tmod a m
  have : a.natAbs % m.natAbs < m.natAbs := Nat.mod_lt _ (by omega)
  omega
theorem intP_inj {x y : Int} (hx : (intP x).2 = 0) (hy : (intP y).2 = 0) (h : (intP x).1 = (intP y).1) : x = y := by
  have h1 := toIntP_intP hx
  rw [h, toIntP_intP hy] at h1
  exact (congrArg Prod.fst h1).symm
theorem ofP_wf (k n : Int) : 0 ≤ (ofP k n).1 ∧ (ofP k n).1 < 18446744073709551616 := by
  unfold ofP; split <;> simp <;> omega
theorem ofP_ok (k n : Int) : (ofP k n).2 = 0 ↔ ((k = 1 ∨ k = 3 ∨ k = 4) ∧ 0 ≤ n ∧ n < 1099511627776) := by
  unfold ofP; split <;> simp_all
theorem toP_ok (k w : Int) : (toP k w).2 = true ↔ ((k = 1 ∨ k = 3 ∨ k = 4) ∧ w % 8 = k ∧ w / 8 < 1099511627776) := by
  unfold toP; split <;> simp_all
theorem toP_ofP {k n : Int} (h : (ofP k n).2 = 0) : toP k (ofP k n).1 = (n, true) := by
  have h' := (ofP_ok k n).1 h
  unfold ofP toP
  rw [if_pos h']
  simp only
  rw [if_pos ⟨h'.1, by omega, by omega⟩, show (n * 8 + k) / 8 = n by omega]
theorem ofP_toP {k w : Int} (h0 : 0 ≤ w) (h : (toP k w).2 = true) : ofP k (toP k w).1 = (w, 0) := by
  have h' := (toP_ok k w).1 h
  unfold toP ofP
  rw [if_pos h']
  simp only
  rw [if_pos ⟨h'.1, by omega, by omega⟩, show w / 8 * 8 + k = w by omega]
theorem toP_range (k w : Int) (h0 : 0 ≤ w) : 0 ≤ (toP k w).1 ∧ (toP k w).1 < 1099511627776 := by
  unfold toP; split <;> simp <;> omega
theorem mayP_ofP {k n : Int} (h : (ofP k n).2 = 0) : mayP (ofP k n).1 = true := by
  have h' := (ofP_ok k n).1 h
  have hm : (ofP k n).1 % 8 = k := by unfold ofP; rw [if_pos h']; simp only; omega
  have ht := toP_ofP h
  unfold mayP
  rw [hm, if_neg (by omega), if_neg (by omega), ht]
theorem mayP_intP {n : Int} (h : (intP n).2 = 0) : mayP (intP n).1 = true := by
  have hm : (intP n).1 % 8 = 0 := by rw [intP_yes ((intP_ok n).1 h)]; simp only; omega
  unfold mayP
  rw [if_pos hm, toIntP_intP h]
theorem i64_and15 (x : Int) : Go.bits .and .i64 x 15 = x % 16 := by
  have hk : IntKind.i64.bits = 64 := rfl
  simp only [bits, hk, BitVec.toNat_and, BitVec.toNat_ofInt]
  rw [show ((15 : Int) % ((2 ^ 64 : Nat) : Int)).toNat = 2 ^ 4 - 1 by decide, Nat.and_two_pow_sub_one_eq_mod, IntKind.wrap_i64]
  have h := Int.emod_nonneg x (show ((2 ^ 64 : Nat) : Int) ≠ 0 by decide)
  simp at h ⊢
  omega
theorem u8_and1 (x : Int) (h0 : 0 ≤ x) (h1 : x < 256) : Go.bits .and .u8 x 1 = x % 2 := by
  have := bits_mask .u8 8 (by decide) wraps_u8 1 (by decide) x h0 (by simpa using h1)
  simpa using this
end Go.Proofs.YtomhkemdafiphaaGreatDoor.Word
/- Contracts of word.Of and word.To, walked; each states its conditions. -/
namespace Go.Proofs.YtomhkemdafiphaaGreatDoor.Word
open Go Go.RowKit
theorem of_at (n : Int) (w : World) (h0 : 0 ≤ n) (h1 : n < 1099511627776) :
    Calls Tryz.prog 38 #[.int .i64 1, .int .i64 n] w fun e w' => e = .returned (.tuple #[.int .u64 (n * 8 + 1), .int .i64 0]) ∧ w = w' := by
  have e1 : IntKind.u64.wrap n = n := by rw [wrap_u64]; omega
  have e2 : IntKind.u64.wrap (n * 8) = n * 8 := by rw [wrap_u64]; omega
  have e3 : Go.bits .or .u64 (n * 8) 1 = n * 8 + 1 := u64_or8 (by omega) (by omega) (by omega) (by omega) (by omega)
  have t0 : decide (n ≥ 0) = true := by simp; omega
  have t1 : decide (n < 1099511627776) = true := by simp; omega
  go_enter Tryz.func38, Tryz.ntmps38
  go_wp2
  go_ret2
  exact ⟨rfl, rfl⟩
theorem to_one (kd x : Int) (w : World) (hk : kd = 1 ∨ kd = 3 ∨ kd = 4) (h0 : 0 ≤ x) (h8 : x < 18446744073709551616) :
    Calls Tryz.prog 91 #[.int .i64 kd, .int .u64 x] w fun e w' => e = .returned (.tuple #[.int .i64 (toP kd x).1, .bool (toP kd x).2]) ∧ w = w' := by
  have e1 : Go.bits .and .u64 x 7 = x % 8 := u64_and7 x h0 h8
  have hd : 0 ≤ x / 8 := by omega
  have hw : wrap64 (x / 8) = x / 8 := wrap64_id (by omega) (by omega)
  by_cases hm : x % 8 = kd
  · by_cases h1 : x / 8 < 1099511627776
    · have ht : toP kd x = (x / 8, true) := by unfold toP; rw [if_pos ⟨hk, hm, h1⟩]
      have t1 : decide (x / 8 < 1099511627776) = true := by simpa using h1
      rw [ht]; clear ht
      rw [hm] at e1
      clear hm h0 h8
      rcases hk with rfl | rfl | rfl <;>
      · go_enter Tryz.func91, Tryz.ntmps91
        go_wp2
        go_ret2
        exact ⟨rfl, rfl⟩
    · have ht : toP kd x = (0, false) := by unfold toP; rw [if_neg (fun h => h1 h.2.2)]
      have t1 : decide (x / 8 < 1099511627776) = false := by simpa using h1
      rw [ht]; clear ht
      rw [hm] at e1
      clear hm h0 h8 h1
      rcases hk with rfl | rfl | rfl <;>
      · go_enter Tryz.func91, Tryz.ntmps91
        go_wp2
        go_ret2
        exact ⟨rfl, rfl⟩
  · have ht : toP kd x = (0, false) := by unfold toP; rw [if_neg (fun h => hm h.2.1)]
    rw [ht]; clear ht
    rcases hk with rfl | rfl | rfl
    · have t1 : (x % 8 == 1) = false := by simpa using hm
      clear hm h0 h8
      go_enter Tryz.func91, Tryz.ntmps91
      go_wp2
      go_ret2
      exact ⟨rfl, rfl⟩
    · have t1 : (x % 8 == 3) = false := by simpa using hm
      clear hm h0 h8
      go_enter Tryz.func91, Tryz.ntmps91
      go_wp2
      go_ret2
      exact ⟨rfl, rfl⟩
    · have t1 : (x % 8 == 4) = false := by simpa using hm
      clear hm h0 h8
      go_enter Tryz.func91, Tryz.ntmps91
      go_wp2
      go_ret2
      exact ⟨rfl, rfl⟩
end Go.Proofs.YtomhkemdafiphaaGreatDoor.Word
/- Plain lists of things laid as words and heads, and lemmas about them; no conditions beyond those each states. -/
namespace Go.Proofs.YtomhkemdafiphaaGreatDoor.Ar
/-- a thing: its kind, its words -/
abbrev Thing := Int × List Int
/-- how many words things take -/
def tot : List Thing → Nat
  | [] => 0
  | o :: r => o.2.length + 1 + tot r
theorem tot_cons (o : Thing) (r : List Thing) : tot (o :: r) = o.2.length + 1 + tot r := rfl
/-- the words and the heads that things are laid as -/
def flatW : List Thing → List Int
  | [] => []
  | o :: r => ((o.2.length : Int) * 256 + o.1) :: (o.2 ++ flatW r)
def flatH : List Thing → List Bool
  | [] => []
  | o :: r => true :: (List.replicate o.2.length false ++ flatH r)
/-- the thing whose place is `at` -/
def look : List Thing → Nat → Option Thing
  | [], _ => none
  | o :: r, a => if a = 0 then some o else if a ≤ o.2.length then none else look r (a - (o.2.length + 1))
/-- things, where word i of the one at `at` is x -/
def setT : List Thing → Nat → Nat → Int → List Thing
  | [], _, _, _ => []
  | o :: r, a, i, x => if a = 0 then (o.1, o.2.set i x) :: r else if a ≤ o.2.length then o :: r else o :: setT r (a - (o.2.length + 1)) i x
theorem flatW_len (l : List Thing) : (flatW l).length = tot l := by
  induction l with
  | nil => rfl
  | cons o r ih => simp only [flatW, tot, List.length_cons, List.length_append, ih]; omega
theorem flatH_len (l : List Thing) : (flatH l).length = tot l := by
  induction l with
  | nil => rfl
  | cons o r ih => simp only [flatH, tot, List.length_cons, List.length_append, List.length_replicate, ih]; omega
theorem tot_append (l m : List Thing) : tot (l ++ m) = tot l + tot m := by
  induction l with
  | nil => simp [tot]
  | cons o r ih => simp only [List.cons_append, tot, ih]; omega
theorem flatW_append (l m : List Thing) : flatW (l ++ m) = flatW l ++ flatW m := by
  induction l with
  | nil => rfl
  | cons o r ih => simp [flatW, ih]
theorem flatH_append (l m : List Thing) : flatH (l ++ m) = flatH l ++ flatH m := by
  induction l with
  | nil => rfl
  | cons o r ih => simp [flatH, ih]
theorem look_lt {l : List Thing} {a : Nat} {o : Thing} (h : look l a = some o) : a + o.2.length + 1 ≤ tot l := by
  induction l generalizing a with
  | nil => simp [look] at h
  | cons p r ih =>
    simp only [look] at h
    by_cases h0 : a = 0
    · rw [if_pos h0] at h; cases h; simp only [tot]; omega
    · rw [if_neg h0] at h
      by_cases h1 : a ≤ p.2.length
      · rw [if_pos h1] at h; cases h
      · rw [if_neg h1] at h; have := ih h; simp only [tot]; omega
theorem look_head (l : List Thing) (a : Nat) : (flatH l)[a]? = if a < tot l then some (look l a).isSome else none := by
  induction l generalizing a with
  | nil => simp [flatH, tot]
  | cons o r ih =>
    cases a with
    | zero => simp [flatH, look, tot]
    | succ a =>
      rw [tot_cons]
      simp only [flatH, List.getElem?_cons_succ, look]
      rw [if_neg (show ¬ a + 1 = 0 by omega)]
      by_cases h : a < o.2.length
      · rw [List.getElem?_append_left (by simpa using h), if_pos (by omega), if_pos (by omega)]
        simp [h]
      · rw [List.getElem?_append_right (by simpa using h), List.length_replicate, ih, if_neg (show ¬ a + 1 ≤ o.2.length by omega), show a + 1 - (o.2.length + 1) = a - o.2.length by omega]
        by_cases h2 : a - o.2.length < tot r
        · rw [if_pos h2, if_pos (show a + 1 < o.2.length + 1 + tot r by omega)]
        · rw [if_neg h2, if_neg (show ¬ a + 1 < o.2.length + 1 + tot r by omega)]
theorem look_word {l : List Thing} {a : Nat} {o : Thing} (h : look l a = some o) : (flatW l)[a]? = some ((o.2.length : Int) * 256 + o.1) := by
  induction l generalizing a with
  | nil => simp [look] at h
  | cons p r ih =>
    simp only [look] at h
    by_cases h0 : a = 0
    · rw [if_pos h0] at h; cases h; subst h0; simp [flatW]
    · rw [if_neg h0] at h
      by_cases h1 : a ≤ p.2.length
      · rw [if_pos h1] at h; cases h
      · rw [if_neg h1] at h
        obtain ⟨b, rfl⟩ : ∃ b, a = p.2.length + 1 + b := ⟨a - (p.2.length + 1), by omega⟩
        rw [show p.2.length + 1 + b - (p.2.length + 1) = b by omega] at h
        simp only [flatW]
        rw [show p.2.length + 1 + b = (p.2.length + b) + 1 by omega, List.getElem?_cons_succ, List.getElem?_append_right (by omega), show p.2.length + b - p.2.length = b by omega]
        exact ih h
theorem look_field {l : List Thing} {a : Nat} {o : Thing} (h : look l a = some o) (i : Nat) (hi : i < o.2.length) : (flatW l)[a + 1 + i]? = o.2[i]? := by
  induction l generalizing a with
  | nil => simp [look] at h
  | cons p r ih =>
    simp only [look] at h
    by_cases h0 : a = 0
    · rw [if_pos h0] at h; cases h; subst h0
      simp only [flatW]
      rw [show 0 + 1 + i = i + 1 by omega, List.getElem?_cons_succ, List.getElem?_append_left hi]
    · rw [if_neg h0] at h
      by_cases h1 : a ≤ p.2.length
      · rw [if_pos h1] at h; cases h
      · rw [if_neg h1] at h
        obtain ⟨b, rfl⟩ : ∃ b, a = p.2.length + 1 + b := ⟨a - (p.2.length + 1), by omega⟩
        rw [show p.2.length + 1 + b - (p.2.length + 1) = b by omega] at h
        simp only [flatW]
        rw [show p.2.length + 1 + b + 1 + i = (p.2.length + (b + 1 + i)) + 1 by omega, List.getElem?_cons_succ, List.getElem?_append_right (by omega), show p.2.length + (b + 1 + i) - p.2.length = b + 1 + i by omega]
        exact ih h
theorem setT_W {l : List Thing} {a : Nat} {o : Thing} (h : look l a = some o) (i : Nat) (hi : i < o.2.length) (x : Int) : flatW (setT l a i x) = (flatW l).set (a + 1 + i) x := by
  induction l generalizing a with
  | nil => simp [look] at h
  | cons p r ih =>
    simp only [look] at h
    by_cases h0 : a = 0
    · rw [if_pos h0] at h; cases h; subst h0
      simp only [setT, if_true, flatW, List.length_set]
      rw [show 0 + 1 + i = i + 1 by omega, List.set_cons_succ, List.set_append_left _ _ hi]
    · rw [if_neg h0] at h
      by_cases h1 : a ≤ p.2.length
      · rw [if_pos h1] at h; cases h
      · rw [if_neg h1] at h
        obtain ⟨b, rfl⟩ : ∃ b, a = p.2.length + 1 + b := ⟨a - (p.2.length + 1), by omega⟩
        rw [show p.2.length + 1 + b - (p.2.length + 1) = b by omega] at h
        simp only [setT]
        rw [if_neg h0, if_neg h1, show p.2.length + 1 + b - (p.2.length + 1) = b by omega]
        simp only [flatW]
        rw [ih h, show p.2.length + 1 + b + 1 + i = (p.2.length + (b + 1 + i)) + 1 by omega, List.set_cons_succ, List.set_append_right _ _ (by omega), show p.2.length + (b + 1 + i) - p.2.length = b + 1 + i by omega]
theorem setT_H (l : List Thing) (a i : Nat) (x : Int) : flatH (setT l a i x) = flatH l := by
  induction l generalizing a with
  | nil => rfl
  | cons p r ih => simp only [setT]; split <;> (try split) <;> simp [flatH, ih]
theorem setT_tot (l : List Thing) (a i : Nat) (x : Int) : tot (setT l a i x) = tot l := by
  rw [← flatH_len, setT_H, flatH_len]
theorem look_setT (l : List Thing) (a i b : Nat) (x : Int) : look (setT l a i x) b = if b = a then (look l a).map (fun o => (o.1, o.2.set i x)) else look l b := by
  induction l generalizing a b with
  | nil => simp [setT, look]
  | cons p r ih =>
    simp only [setT]
    by_cases h0 : a = 0
    · subst h0
      simp only [if_true, look, List.length_set]
      by_cases hb : b = 0
      · subst hb; simp
      · simp [hb]
    · rw [if_neg h0]
      by_cases h1 : a ≤ p.2.length
      · rw [if_pos h1]
        by_cases hb : b = a
        · subst hb; simp [look, h0, h1]
        · rw [if_neg hb]
      · rw [if_neg h1]
        simp only [look]
        rw [if_neg h0, if_neg h1, ih]
        by_cases hb : b = a
        · subst hb; simp [h0, h1]
        · rw [if_neg hb]
          by_cases hb0 : b = 0
          · simp [hb0]
          · rw [if_neg hb0, if_neg hb0]
            by_cases hb1 : b ≤ p.2.length
            · rw [if_pos hb1, if_pos hb1]
            · rw [if_neg hb1, if_neg hb1, if_neg (by omega)]
theorem look_snoc (l : List Thing) (o : Thing) (a : Nat) : look (l ++ [o]) a = if a < tot l then look l a else if a = tot l then some o else none := by
  induction l generalizing a with
  | nil =>
    rw [show tot [] = 0 from rfl, if_neg (Nat.not_lt_zero _)]
    simp only [List.nil_append, look]
    by_cases h : a = 0 <;> simp [h]
  | cons p r ih =>
    rw [tot_cons]
    simp only [List.cons_append, look]
    by_cases h0 : a = 0
    · subst h0; simp
    · rw [if_neg h0, if_neg h0]
      by_cases h1 : a ≤ p.2.length
      · rw [if_pos h1, if_pos h1, if_pos (by omega)]
      · rw [if_neg h1, if_neg h1, ih]
        by_cases h2 : a < p.2.length + 1 + tot r
        · rw [if_pos h2, if_pos (by omega)]
        · rw [if_neg h2, if_neg (by omega)]
          by_cases h3 : a = p.2.length + 1 + tot r
          · rw [if_pos h3, if_pos (by omega)]
          · rw [if_neg h3, if_neg (by omega)]
/-- every thing's kind and how many words it has are what may be -/
def okT (l : List Thing) : Prop := ∀ o, o ∈ l → 1 ≤ o.1 ∧ o.1 ≤ 9 ∧ o.2.length ≤ 255
theorem look_mem {l : List Thing} {a : Nat} {o : Thing} (h : look l a = some o) : o ∈ l := by
  induction l generalizing a with
  | nil => simp [look] at h
  | cons p r ih =>
    simp only [look] at h
    split at h
    · cases h; simp
    · split at h
      · cases h
      · exact List.mem_cons_of_mem _ (ih h)
theorem okT_setT {l : List Thing} (h : okT l) (a i : Nat) (x : Int) : okT (setT l a i x) := by
  induction l generalizing a with
  | nil => exact h
  | cons p r ih =>
    have hp := h p (by simp)
    have hr : okT r := fun o ho => h o (List.mem_cons_of_mem _ ho)
    simp only [setT]
    split
    · intro o ho
      rcases List.mem_cons.1 ho with rfl | ho
      · simpa using hp
      · exact hr o ho
    · split
      · exact h
      · intro o ho
        rcases List.mem_cons.1 ho with rfl | ho
        · exact hp
        · exact ih hr _ o ho
end Go.Proofs.YtomhkemdafiphaaGreatDoor.Ar
/- What it is that a block is an arena, and contracts of Used and Size; each states its conditions. -/
namespace Go.Proofs.YtomhkemdafiphaaGreatDoor.Ar
open Go.Proofs.YtomhkemdafiphaaGreatDoor.Heap
open Go Go.RowKit
/-- in the world w the arena at block g has `size` words, and things l -/
structure IsAr (w : World) (g bw bh size : Nat) (l : List Thing) : Prop where
  pt : w.heap[g]? = some (.cells #[.slice (some ⟨bw, 0, none⟩) size size, .slice (some ⟨bh, 0, none⟩) size size, .int .i64 (tot l : Int)] 93 (0, 0))
  wd : ∃ z : List Int, tot l + z.length = size ∧ w.heap[bw]? = some (.cells (nums .u64 (flatW l ++ z)).toArray 41 (0, 0))
  hd : ∃ z : Nat, tot l + z = size ∧ w.heap[bh]? = some (.cells (bools (flatH l ++ List.replicate z false)).toArray 4 (0, 0))
  ok : okT l
  lo : 1 ≤ size
  hi : size ≤ 65536
theorem IsAr.keep {w w' : World} {g bw bh size : Nat} {l : List Thing} {F : List Nat} (h : IsAr w g bw bh size l) (k : Chg F w w') (hg : g ∉ F) (hb : bw ∉ F) (hh : bh ∉ F) : IsAr w' g bw bh size l :=
  ⟨k.at h.pt hg, h.wd.imp fun _ hz => ⟨hz.1, k.at hz.2 hb⟩, h.hd.imp fun _ hz => ⟨hz.1, k.at hz.2 hh⟩, h.ok, h.lo, h.hi⟩
theorem IsAr.sub {w w' : World} {g bw bh size : Nat} {l : List Thing} (h : IsAr w g bw bh size l) (k : Chg [] w w') : IsAr w' g bw bh size l := h.keep k (by simp) (by simp) (by simp)
theorem IsAr.tot_le {w : World} {g bw bh size : Nat} {l : List Thing} (h : IsAr w g bw bh size l) : tot l ≤ size := by obtain ⟨z, hz, _⟩ := h.wd; omega
theorem used_calls {w : World} {g bw bh size : Nat} {l : List Thing} (h : IsAr w g bw bh size l) :
    Calls Tryz.prog 37 #[.pointer (some ⟨g, 0, none⟩)] w fun e w' => e = .returned (.int .i64 (tot l : Int)) ∧ w = w' := by
  have hc : w.cell? ⟨g, 2, none⟩ = some (.int .i64 (tot l : Int)) := by rw [blk_cell h.pt]; rfl
  go_enter Tryz.func37, Tryz.ntmps37
  go_wp2
  go_ret
  exact ⟨rfl, rfl⟩
theorem used_nil (w : World) :
    Calls Tryz.prog 37 #[.pointer none] w fun e w' => e = .returned (.int .i64 0) ∧ w = w' := by
  go_enter Tryz.func37, Tryz.ntmps37
  go_wp2
  go_ret
  exact ⟨rfl, rfl⟩
theorem size_calls {w : World} {g bw bh size : Nat} {l : List Thing} (h : IsAr w g bw bh size l) :
    Calls Tryz.prog 36 #[.pointer (some ⟨g, 0, none⟩)] w fun e w' => e = .returned (.int .i64 (size : Int)) ∧ w = w' := by
  have hc : w.cell? ⟨g, 0, none⟩ = some (.slice (some ⟨bw, 0, none⟩) size size) := by rw [blk_cell h.pt]; rfl
  go_enter Tryz.func36, Tryz.ntmps36
  go_wp2
  go_ret
  exact ⟨rfl, rfl⟩
theorem size_nil (w : World) :
    Calls Tryz.prog 36 #[.pointer none] w fun e w' => e = .returned (.int .i64 0) ∧ w = w' := by
  go_enter Tryz.func36, Tryz.ntmps36
  go_wp2
  go_ret
  exact ⟨rfl, rfl⟩
end Go.Proofs.YtomhkemdafiphaaGreatDoor.Ar
/- The contract of find; each theorem states its conditions. -/
namespace Go.Proofs.YtomhkemdafiphaaGreatDoor.Ar
open Go Go.RowKit Go.Proofs.YtomhkemdafiphaaGreatDoor.Heap Go.Proofs.YtomhkemdafiphaaGreatDoor.Word
/-- the thing whose place the word x is -/
def place (l : List Thing) (x : Int) : Option Thing := if x % 8 = 1 ∧ x / 8 < 1099511627776 then look l (x / 8).toNat else none
theorem find_yes {w : World} {g bw bh size : Nat} {l : List Thing} (h : IsAr w g bw bh size l) (x : Int) (h0 : 0 ≤ x) (h8 : x < 18446744073709551616) (o : Thing) (hp : place l x = some o) :
    Calls Tryz.prog 106 #[.pointer (some ⟨g, 0, none⟩), .int .u64 x] w fun e w' =>
      e = .returned (.tuple #[.slice (if o.2.length = 0 then some ⟨bw, 0, none⟩ else some ⟨bw, (x / 8).toNat + 1, none⟩) o.2.length o.2.length, .int .i64 o.1, .bool true]) ∧ w = w' := by
  have hx : x % 8 = 1 ∧ x / 8 < 1099511627776 := by
    unfold place at hp; split at hp
    · assumption
    · cases hp
  have hl : look l (x / 8).toNat = some o := by unfold place at hp; rw [if_pos hx] at hp; exact hp
  have ht : toP 1 x = (x / 8, true) := by unfold toP; rw [if_pos ⟨.inl rfl, hx.1, hx.2⟩]
  have T := to_one 1 x
  rw [ht] at T
  have hlt := look_lt hl
  have hle := h.tot_le
  have hhi := h.hi
  obtain ⟨n, hn⟩ : ∃ n : Nat, x / 8 = n := ⟨(x / 8).toNat, by omega⟩
  have hnn : (x / 8).toNat = n := by omega
  rw [hnn] at hl hlt ⊢
  rw [hn] at T
  have ho := h.ok o (look_mem hl)
  have cW : w.cell? ⟨g, 0, none⟩ = some (.slice (some ⟨bw, 0, none⟩) size size) := by rw [blk_cell h.pt]; rfl
  have cH : w.cell? ⟨g, 1, none⟩ = some (.slice (some ⟨bh, 0, none⟩) size size) := by rw [blk_cell h.pt]; rfl
  have ch : w.cell? ⟨bh, n, none⟩ = some (.bool true) := by
    obtain ⟨z, _, hz⟩ := h.hd
    rw [blk_cell hz]
    have := look_head l n
    rw [if_pos (by omega), hl] at this
    rw [bools_get, List.getElem?_append_left (show n < (flatH l).length by rw [flatH_len]; omega), this]; rfl
  have cw : w.cell? ⟨bw, n, none⟩ = some (.int .u64 ((o.2.length : Int) * 256 + o.1)) := by
    obtain ⟨z, _, hz⟩ := h.wd
    rw [blk_cell hz]
    rw [nums_get, List.getElem?_append_left (show n < (flatW l).length by rw [flatW_len]; omega), look_word hl]; rfl
  have a1 : Go.bits .and .u64 ((o.2.length : Int) * 256 + o.1) 255 = o.1 := by
    have := u64_mask 8 (by decide) ((o.2.length : Int) * 256 + o.1) (by omega) (by omega)
    rw [show ((2 : Int) ^ 8 - 1) = 255 by decide, show ((2 : Int) ^ 8) = 256 by decide] at this
    rw [this]; omega
  have a2 : ((o.2.length : Int) * 256 + o.1) / 256 = o.2.length := by omega
  have t1 : decide ((n : Int) ≥ (tot l : Int)) = false := by simp; omega
  generalize o.2.length = m at *
  generalize o.1 = kd at *
  clear hl hp ht hn hnn hx
  go_enter Tryz.func106, Tryz.ntmps106
  go_wp2_with (first
    | (go_at_call 91; refine (T _ (.inl rfl) h0 h8).mono ?_; rintro e w1 ⟨rfl, rfl⟩)
    | (go_at_call 37; refine (used_calls h).mono ?_; rintro e w1 ⟨rfl, rfl⟩))
  all_goals
    go_ret3
    exact ⟨rfl, rfl⟩
theorem find_no {w : World} {g bw bh size : Nat} {l : List Thing} (h : IsAr w g bw bh size l) (x : Int) (h0 : 0 ≤ x) (h8 : x < 18446744073709551616) (hp : place l x = none) :
    Calls Tryz.prog 106 #[.pointer (some ⟨g, 0, none⟩), .int .u64 x] w fun e w' =>
      e = .returned (.tuple #[.slice none 0 0, .int .i64 0, .bool false]) ∧ w = w' := by
  have T := to_one 1 x
  have hle := h.tot_le
  have hhi := h.hi
  by_cases hx : x % 8 = 1 ∧ x / 8 < 1099511627776
  · have hl : look l (x / 8).toNat = none := by unfold place at hp; rw [if_pos hx] at hp; exact hp
    have ht : toP 1 x = (x / 8, true) := by unfold toP; rw [if_pos ⟨.inl rfl, hx.1, hx.2⟩]
    rw [ht] at T
    obtain ⟨n, hn⟩ : ∃ n : Nat, x / 8 = n := ⟨(x / 8).toNat, by omega⟩
    have hnn : (x / 8).toNat = n := by omega
    rw [hnn] at hl
    rw [hn] at T
    by_cases hlt : n < tot l
    · have cH : w.cell? ⟨g, 1, none⟩ = some (.slice (some ⟨bh, 0, none⟩) size size) := by rw [blk_cell h.pt]; rfl
      have ch : w.cell? ⟨bh, n, none⟩ = some (.bool false) := by
        obtain ⟨z, _, hz⟩ := h.hd
        rw [blk_cell hz]
        have := look_head l n
        rw [if_pos hlt, hl] at this
        rw [bools_get, List.getElem?_append_left (show n < (flatH l).length by rw [flatH_len]; omega), this]; rfl
      have t1 : decide ((n : Int) ≥ (tot l : Int)) = false := by simp; omega
      clear hl hp ht hn hnn hx
      go_enter Tryz.func106, Tryz.ntmps106
      go_wp2_with (first
        | (go_at_call 91; refine (T _ (.inl rfl) h0 h8).mono ?_; rintro e w1 ⟨rfl, rfl⟩)
        | (go_at_call 37; refine (used_calls h).mono ?_; rintro e w1 ⟨rfl, rfl⟩))
      all_goals
        go_ret3
        exact ⟨rfl, rfl⟩
    · have t1 : decide ((n : Int) ≥ (tot l : Int)) = true := by simp; omega
      clear hl hp ht hn hnn hx
      go_enter Tryz.func106, Tryz.ntmps106
      go_wp2_with (first
        | (go_at_call 91; refine (T _ (.inl rfl) h0 h8).mono ?_; rintro e w1 ⟨rfl, rfl⟩)
        | (go_at_call 37; refine (used_calls h).mono ?_; rintro e w1 ⟨rfl, rfl⟩))
      all_goals
        go_ret3
        exact ⟨rfl, rfl⟩
  · have ht : toP 1 x = (0, false) := by unfold toP; rw [if_neg (fun h => hx h.2)]
    rw [ht] at T
    clear hp ht hx
    go_enter Tryz.func106, Tryz.ntmps106
    go_wp2_with (first
      | (go_at_call 91; refine (T _ (.inl rfl) h0 h8).mono ?_; rintro e w1 ⟨rfl, rfl⟩))
    all_goals
      go_ret3
      exact ⟨rfl, rfl⟩
theorem find_nil (x : Int) (w : World) (h0 : 0 ≤ x) (h8 : x < 18446744073709551616) :
    Calls Tryz.prog 106 #[.pointer none, .int .u64 x] w fun e w' =>
      e = .returned (.tuple #[.slice none 0 0, .int .i64 0, .bool false]) ∧ w = w' := by
  have T := to_one 1 x
  have hr := toP_range 1 x h0
  by_cases hx : (toP 1 x).2 = true
  · have t1 : decide ((toP 1 x).1 ≥ 0) = true := by simp; omega
    go_enter Tryz.func106, Tryz.ntmps106
    go_wp2_with (first
      | (go_at_call 91; refine (T _ (.inl rfl) h0 h8).mono ?_; rintro e w1 ⟨rfl, rfl⟩)
      | (go_at_call 37; refine (used_nil _).mono ?_; rintro e w1 ⟨rfl, rfl⟩))
    all_goals
      go_ret3
      exact ⟨rfl, rfl⟩
  · have hx : (toP 1 x).2 = false := by simpa using hx
    go_enter Tryz.func106, Tryz.ntmps106
    go_wp2_with (first
      | (go_at_call 91; refine (T _ (.inl rfl) h0 h8).mono ?_; rintro e w1 ⟨rfl, rfl⟩))
    all_goals
      go_ret3
      exact ⟨rfl, rfl⟩
end Go.Proofs.YtomhkemdafiphaaGreatDoor.Ar
/- Contracts of Kind, Len, at and Get; each states its conditions. -/
namespace Go.Proofs.YtomhkemdafiphaaGreatDoor.Ar
open Go Go.RowKit Go.Proofs.YtomhkemdafiphaaGreatDoor.Heap Go.Proofs.YtomhkemdafiphaaGreatDoor.Word
/-- Kind, Len, Get: what is told -/
def kindA (l : List Thing) (x : Int) : Int := match place l x with | some o => o.1 | none => 0
def lenA (l : List Thing) (x : Int) : Int := match place l x with | some o => o.2.length | none => 0
def getA (l : List Thing) (x i : Int) : Int × Int := match place l x with
  | some o => if 0 ≤ i ∧ i < o.2.length then (o.2.getD i.toNat 0, 0) else (0, 1)
  | none => (0, 2)
def setA (l : List Thing) (x i v : Int) : List Thing × Int := match place l x with
  | some o => if 0 ≤ i ∧ i < o.2.length then (setT l (x / 8).toNat i.toNat v, 0) else (l, 1)
  | none => (l, 2)
theorem kind_calls {w : World} {g bw bh size : Nat} {l : List Thing} (h : IsAr w g bw bh size l) (x : Int) (h0 : 0 ≤ x) (h8 : x < 18446744073709551616) :
    Calls Tryz.prog 86 #[.pointer (some ⟨g, 0, none⟩), .int .u64 x] w fun e w' => e = .returned (.int .i64 (kindA l x)) ∧ w = w' := by
  unfold kindA
  cases hp : place l x with
  | some o =>
    have F := fun W (h : IsAr W g bw bh size l) => find_yes h x h0 h8 o hp
    simp only []
    go_enter Tryz.func86, Tryz.ntmps86
    go_wp2_with (go_at_call 106; refine (F _ h).mono ?_; rintro e w1 ⟨rfl, rfl⟩)
    all_goals
      go_ret
      exact ⟨rfl, rfl⟩
  | none =>
    have F := fun W (h : IsAr W g bw bh size l) => find_no h x h0 h8 hp
    simp only []
    go_enter Tryz.func86, Tryz.ntmps86
    go_wp2_with (go_at_call 106; refine (F _ h).mono ?_; rintro e w1 ⟨rfl, rfl⟩)
    all_goals
      go_ret
      exact ⟨rfl, rfl⟩
theorem len_calls {w : World} {g bw bh size : Nat} {l : List Thing} (h : IsAr w g bw bh size l) (x : Int) (h0 : 0 ≤ x) (h8 : x < 18446744073709551616) :
    Calls Tryz.prog 87 #[.pointer (some ⟨g, 0, none⟩), .int .u64 x] w fun e w' => e = .returned (.int .i64 (lenA l x)) ∧ w = w' := by
  unfold lenA
  cases hp : place l x with
  | some o =>
    have F := fun W (h : IsAr W g bw bh size l) => find_yes h x h0 h8 o hp
    simp only []
    go_enter Tryz.func87, Tryz.ntmps87
    go_wp2_with (go_at_call 106; refine (F _ h).mono ?_; rintro e w1 ⟨rfl, rfl⟩)
    all_goals
      go_ret
      exact ⟨rfl, rfl⟩
  | none =>
    have F := fun W (h : IsAr W g bw bh size l) => find_no h x h0 h8 hp
    simp only []
    go_enter Tryz.func87, Tryz.ntmps87
    go_wp2_with (go_at_call 106; refine (F _ h).mono ?_; rintro e w1 ⟨rfl, rfl⟩)
    all_goals
      go_ret
      exact ⟨rfl, rfl⟩
theorem kind_nil (x : Int) (w : World) (h0 : 0 ≤ x) (h8 : x < 18446744073709551616) :
    Calls Tryz.prog 86 #[.pointer none, .int .u64 x] w fun e w' => e = .returned (.int .i64 0) ∧ w = w' := by
  go_enter Tryz.func86, Tryz.ntmps86
  go_wp2_with (go_at_call 106; refine (find_nil x _ h0 h8).mono ?_; rintro e w1 ⟨rfl, rfl⟩)
  go_ret
  exact ⟨rfl, rfl⟩
theorem len_nil (x : Int) (w : World) (h0 : 0 ≤ x) (h8 : x < 18446744073709551616) :
    Calls Tryz.prog 87 #[.pointer none, .int .u64 x] w fun e w' => e = .returned (.int .i64 0) ∧ w = w' := by
  go_enter Tryz.func87, Tryz.ntmps87
  go_wp2_with (go_at_call 106; refine (find_nil x _ h0 h8).mono ?_; rintro e w1 ⟨rfl, rfl⟩)
  go_ret
  exact ⟨rfl, rfl⟩
theorem at_yes {w : World} {g bw bh size : Nat} {l : List Thing} (h : IsAr w g bw bh size l) (x i : Int) (h0 : 0 ≤ x) (h8 : x < 18446744073709551616) (o : Thing) (hp : place l x = some o) (hi : 0 ≤ i) (hi' : i < o.2.length) :
    Calls Tryz.prog 107 #[.pointer (some ⟨g, 0, none⟩), .int .u64 x, .int .i64 i] w fun e w' =>
      e = .returned (.tuple #[.pointer (some ⟨bw, (x / 8).toNat + 1 + i.toNat, none⟩), .int .i64 0]) ∧ w = w' := by
  have F := fun W (h : IsAr W g bw bh size l) => find_yes h x h0 h8 o hp
  rw [if_neg (show ¬ o.2.length = 0 by omega)] at F
  obtain ⟨j, rfl⟩ := Int.eq_ofNat_of_zero_le hi
  have t1 : decide ((j : Int) < 0) = false := by simp
  have t2 : decide ((j : Int) ≥ (o.2.length : Int)) = false := by simp; omega
  rw [Int.toNat_natCast]
  have hj : j < o.2.length := by omega
  generalize o.2.length = m at *
  generalize o.1 = kd at *
  generalize (x / 8).toNat = n at *
  clear hi hi' hp
  go_enter Tryz.func107, Tryz.ntmps107
  go_wp2_with (go_at_call 106; refine (F _ h).mono ?_; rintro e w1 ⟨rfl, rfl⟩)
  all_goals
    go_ret2
    exact ⟨rfl, rfl⟩
theorem at_out {w : World} {g bw bh size : Nat} {l : List Thing} (h : IsAr w g bw bh size l) (x i : Int) (h0 : 0 ≤ x) (h8 : x < 18446744073709551616) (o : Thing) (hp : place l x = some o) (hi : ¬ (0 ≤ i ∧ i < o.2.length)) :
    Calls Tryz.prog 107 #[.pointer (some ⟨g, 0, none⟩), .int .u64 x, .int .i64 i] w fun e w' =>
      e = .returned (.tuple #[.pointer none, .int .i64 1]) ∧ w = w' := by
  have F := fun W (h : IsAr W g bw bh size l) => find_yes h x h0 h8 o hp
  by_cases t0 : i < 0
  · have t1 : decide (i < 0) = true := by simpa using t0
    clear hp hi
    go_enter Tryz.func107, Tryz.ntmps107
    go_wp2_with (go_at_call 106; refine (F _ h).mono ?_; rintro e w1 ⟨rfl, rfl⟩)
    all_goals
      go_ret2
      exact ⟨rfl, rfl⟩
  · have t1 : decide (i < 0) = false := by simpa using t0
    have t2 : decide (i ≥ (o.2.length : Int)) = true := by simp; omega
    clear hp hi
    go_enter Tryz.func107, Tryz.ntmps107
    go_wp2_with (go_at_call 106; refine (F _ h).mono ?_; rintro e w1 ⟨rfl, rfl⟩)
    all_goals
      go_ret2
      exact ⟨rfl, rfl⟩
theorem at_no {w : World} {g bw bh size : Nat} {l : List Thing} (h : IsAr w g bw bh size l) (x i : Int) (h0 : 0 ≤ x) (h8 : x < 18446744073709551616) (hp : place l x = none) :
    Calls Tryz.prog 107 #[.pointer (some ⟨g, 0, none⟩), .int .u64 x, .int .i64 i] w fun e w' =>
      e = .returned (.tuple #[.pointer none, .int .i64 2]) ∧ w = w' := by
  have F := fun W (h : IsAr W g bw bh size l) => find_no h x h0 h8 hp
  clear hp
  go_enter Tryz.func107, Tryz.ntmps107
  go_wp2_with (go_at_call 106; refine (F _ h).mono ?_; rintro e w1 ⟨rfl, rfl⟩)
  all_goals
    go_ret2
    exact ⟨rfl, rfl⟩
theorem at_nil (x i : Int) (w : World) (h0 : 0 ≤ x) (h8 : x < 18446744073709551616) :
    Calls Tryz.prog 107 #[.pointer none, .int .u64 x, .int .i64 i] w fun e w' =>
      e = .returned (.tuple #[.pointer none, .int .i64 2]) ∧ w = w' := by
  go_enter Tryz.func107, Tryz.ntmps107
  go_wp2_with (go_at_call 106; refine (find_nil x _ h0 h8).mono ?_; rintro e w1 ⟨rfl, rfl⟩)
  all_goals
    go_ret2
    exact ⟨rfl, rfl⟩
theorem get_nil (x i : Int) (w : World) (h0 : 0 ≤ x) (h8 : x < 18446744073709551616) :
    Calls Tryz.prog 88 #[.pointer none, .int .u64 x, .int .i64 i] w fun e w' => e = .returned (.tuple #[.int .u64 0, .int .i64 2]) ∧ w = w' := by
  go_enter Tryz.func88, Tryz.ntmps88
  go_wp2_with (go_at_call 107; refine (at_nil x i _ h0 h8).mono ?_; rintro e w1 ⟨rfl, rfl⟩)
  all_goals
    go_ret2
    exact ⟨rfl, rfl⟩
theorem get_calls {w : World} {g bw bh size : Nat} {l : List Thing} (h : IsAr w g bw bh size l) (x i : Int) (h0 : 0 ≤ x) (h8 : x < 18446744073709551616) :
    Calls Tryz.prog 88 #[.pointer (some ⟨g, 0, none⟩), .int .u64 x, .int .i64 i] w fun e w' =>
      e = .returned (.tuple #[.int .u64 (getA l x i).1, .int .i64 (getA l x i).2]) ∧ w = w' := by
  unfold getA
  cases hp : place l x with
  | some o =>
    simp only []
    by_cases hi : 0 ≤ i ∧ i < o.2.length
    · rw [if_pos hi]
      have T := fun W (h : IsAr W g bw bh size l) => at_yes h x i h0 h8 o hp hi.1 hi.2
      have hl : look l (x / 8).toNat = some o := by
        unfold place at hp; split at hp
        · exact hp
        · cases hp
      have hlt := look_lt hl
      have cw : w.cell? ⟨bw, (x / 8).toNat + 1 + i.toNat, none⟩ = some (.int .u64 (o.2.getD i.toNat 0)) := by
        obtain ⟨z, _, hz⟩ := h.wd
        rw [blk_cell hz, nums_get, List.getElem?_append_left (by rw [flatW_len]; omega), look_field hl _ (by omega), List.getD_eq_getElem?_getD]
        have : i.toNat < o.2.length := by omega
        simp [List.getElem?_eq_getElem this]
      generalize o.2.getD i.toNat 0 = v at *
      generalize (x / 8).toNat + 1 + i.toNat = n at *
      clear hp hl hlt hi
      go_enter Tryz.func88, Tryz.ntmps88
      go_wp2_with (go_at_call 107; refine (T _ h).mono ?_; rintro e w1 ⟨rfl, rfl⟩)
      all_goals
        go_ret2
        exact ⟨rfl, rfl⟩
    · rw [if_neg hi]
      have T := fun W (h : IsAr W g bw bh size l) => at_out h x i h0 h8 o hp hi
      clear hp hi
      go_enter Tryz.func88, Tryz.ntmps88
      go_wp2_with (go_at_call 107; refine (T _ h).mono ?_; rintro e w1 ⟨rfl, rfl⟩)
      all_goals
        go_ret2
        exact ⟨rfl, rfl⟩
  | none =>
    simp only []
    have T := fun W (h : IsAr W g bw bh size l) => at_no h x i h0 h8 hp
    clear hp
    go_enter Tryz.func88, Tryz.ntmps88
    go_wp2_with (go_at_call 107; refine (T _ h).mono ?_; rintro e w1 ⟨rfl, rfl⟩)
    all_goals
      go_ret2
      exact ⟨rfl, rfl⟩
end Go.Proofs.YtomhkemdafiphaaGreatDoor.Ar
/- Contracts of Set and New; each states its conditions. -/
namespace Go.Proofs.YtomhkemdafiphaaGreatDoor.Ar
open Go Go.RowKit Go.Proofs.YtomhkemdafiphaaGreatDoor.Heap Go.Proofs.YtomhkemdafiphaaGreatDoor.Word
theorem nums_set (k : IntKind) (xs : List Int) (i : Nat) (v : Int) : (nums k xs).toArray.setIfInBounds i (.int k v) = (nums k (xs.set i v)).toArray := by
  simp [nums, List.map_set]
theorem new_bad (n : Int) (w : World) (hn : n < 1 ∨ 65536 < n) :
    Calls Tryz.prog 17 #[.int .i64 n] w fun e w' => e = .returned (.tuple #[.pointer none, .int .i64 1]) ∧ w = w' := by
  by_cases t0 : n < 1
  · have t1 : decide (n < 1) = true := by simpa using t0
    go_enter Tryz.func17, Tryz.ntmps17
    go_wp2
    all_goals
      go_ret2
      exact ⟨rfl, rfl⟩
  · have t1 : decide (n < 1) = false := by simpa using t0
    have t2 : decide (n > 65536) = true := by simp; omega
    go_enter Tryz.func17, Tryz.ntmps17
    go_wp2
    all_goals
      go_ret2
      exact ⟨rfl, rfl⟩
theorem infoW : (Tryz.prog.info? 41).map (fun i => (i.zero, i.size, i.bytes)) = some (some (.int .u64 0), 1, 8) := by kernel_rfl
theorem infoB : (Tryz.prog.info? 4).map (fun i => (i.zero, i.size, i.bytes)) = some (some (.bool false), 1, 1) := by kernel_rfl
theorem underWs : Tryz.prog.underlying 57 = some (.slice 41) := by kernel_rfl
theorem underBs : Tryz.prog.underlying 91 = some (.slice 4) := by kernel_rfl
theorem made_one (z : Value) (n : Nat) (hz : z.cells = #[z]) : madeCells z.cells (n * 1) = Array.replicate n z := by
  rw [hz]; unfold madeCells
  apply Array.ext
  · simp
  · intro i h1 h2
    simp [Nat.mod_one]
theorem makeWk (k : IntKind) (n : Nat) (hn : n ≤ 65536) (W : World) : (Instr.makeSlice 57 (.int k (n : Int)) (.int k (n : Int))).run Tryz.prog W =
    .ok (.slice (some ⟨W.heap.size, 0, none⟩) n n) (W.alloc (.cells (nums .u64 (List.replicate n 0)).toArray 41)) := by
  obtain ⟨i, hi, hz, hs, hb⟩ := info_parts infoW
  have := run_make W 57 41 i _ underWs hi hz k k n n (by omega) (Int.le_refl _) (by rw [hb]; omega) (by omega)
  rw [this, hs, Int.toNat_natCast, made_one _ _ rfl]
  simp [nums]
theorem makeW (n : Nat) (hn : n ≤ 65536) (W : World) : (Instr.makeSlice 57 (.int .i64 (n : Int)) (.int .i64 (n : Int))).run Tryz.prog W =
    .ok (.slice (some ⟨W.heap.size, 0, none⟩) n n) (W.alloc (.cells (nums .u64 (List.replicate n 0)).toArray 41)) := makeWk .i64 n hn W
theorem makeB (n : Nat) (hn : n ≤ 65536) (W : World) : (Instr.makeSlice 91 (.int .i64 (n : Int)) (.int .i64 (n : Int))).run Tryz.prog W =
    .ok (.slice (some ⟨W.heap.size, 0, none⟩) n n) (W.alloc (.cells (bools (List.replicate n false)).toArray 4)) := by
  obtain ⟨i, hi, hz, hs, hb⟩ := info_parts infoB
  have := run_make W 91 4 i _ underBs hi hz .i64 .i64 n n (by omega) (Int.le_refl _) (by rw [hb]; omega) (by omega)
  rw [this, hs, Int.toNat_natCast, made_one _ _ rfl]
  simp [bools]
theorem new_fin (w : World) (bw bh g n : Nat) (h1 : w.heap[g]? = some (.cells #[.slice (some ⟨bw, 0, none⟩) n n, .slice (some ⟨bh, 0, none⟩) n n, .int .i64 0] 93))
    (h2 : w.heap[bw]? = some (.cells (nums .u64 (List.replicate n 0)).toArray 41)) (h3 : w.heap[bh]? = some (.cells (bools (List.replicate n false)).toArray 4)) (hn : 1 ≤ n) (hn' : n ≤ 65536) :
    IsAr w g bw bh n [] :=
  ⟨h1, ⟨List.replicate n 0, by simp [tot], h2⟩, ⟨n, by simp [tot], h3⟩, fun _ h => (by cases h), hn, hn'⟩
theorem new_calls (n : Nat) (w : World) (hn : 1 ≤ n) (hn' : n ≤ 65536) :
    Calls Tryz.prog 17 #[.int .i64 n] w fun e w' => ∃ g bw bh, e = .returned (.tuple #[.pointer (some ⟨g, 0, none⟩), .int .i64 0]) ∧
      IsAr w' g bw bh n [] ∧ Chg [] w w' ∧ w.heap.size ≤ g ∧ w.heap.size ≤ bw ∧ w.heap.size ≤ bh := by
  have t1 : decide ((n : Int) < 1) = false := by simp; omega
  have t2 : decide ((n : Int) > 65536) = false := by simp; omega
  have m1 := makeW n hn'
  have m2 := makeB n hn'
  go_enter Tryz.func17, Tryz.ntmps17
  go_wp2
  go_region
  · go_wp2
    go_ret2
    refine ⟨_, _, _, rfl, new_fin _ w.heap.size (w.heap.size + 1) (w.heap.size + 1 + 1) n ?_ ?_ ?_ hn hn', ((((Chg.refl _ _).alloc _).alloc _).alloc _).drew, by omega, Nat.le_refl _, by omega⟩
    · exact blk_new (by simp)
    · exact blk_old (by simp <;> omega) (blk_old (by simp <;> omega) (blk_new rfl))
    · exact blk_old (by simp <;> omega) (blk_new (by simp))
  · go_wp2
    go_ret2
    refine ⟨_, _, _, rfl, new_fin _ (w.heap.size + 1) w.heap.size (w.heap.size + 1 + 1) n ?_ ?_ ?_ hn hn', ((((Chg.refl _ _).alloc _).alloc _).alloc _).drew, by omega, by omega, Nat.le_refl _⟩
    · exact blk_new (by simp)
    · exact blk_old (by simp <;> omega) (blk_new (by simp))
    · exact blk_old (by simp <;> omega) (blk_old (by simp <;> omega) (blk_new rfl))
end Go.Proofs.YtomhkemdafiphaaGreatDoor.Ar
/- The contract of Alloc; each theorem states its conditions. -/
namespace Go.Proofs.YtomhkemdafiphaaGreatDoor.Ar
open Go Go.RowKit Go.Proofs.YtomhkemdafiphaaGreatDoor.Heap Go.Proofs.YtomhkemdafiphaaGreatDoor.Word
/-- the slice v reads as the words xs, in memory that is none of F -/
def Rd (w : World) (F : List Nat) (v : Value) (xs : List Int) : Prop :=
  ∃ A c, v = .slice A xs.length c ∧ (xs ≠ [] → ∃ b o, A = some ⟨b, o, none⟩ ∧ b ∉ F ∧ ∀ j x, xs[j]? = some x → w.cell? ⟨b, o + j, none⟩ = some (.int .u64 x))
theorem alloc_bad {w : World} {p : Value} (k : Int) (A : Option Addr) (m c : Nat) (hk : k < 1 ∨ 9 < k ∨ 255 < m) :
    Calls Tryz.prog 18 #[p, .int .i64 k, .slice A m c] w fun e w' => e = .returned (.tuple #[.int .u64 0, .int .i64 1]) ∧ w = w' := by
  by_cases h1 : k < 1
  · have t1 : decide (k < 1) = true := by simpa using h1
    clear hk h1
    go_enter Tryz.func18, Tryz.ntmps18
    go_wp2
    all_goals
      go_ret2
      exact ⟨rfl, rfl⟩
  · have t1 : decide (k < 1) = false := by simpa using h1
    by_cases h2 : k > 9
    · have t2 : decide (k > 9) = true := by simpa using h2
      clear hk h1 h2
      go_enter Tryz.func18, Tryz.ntmps18
      go_wp2
      all_goals
        go_ret2
        exact ⟨rfl, rfl⟩
    · have t2 : decide (k > 9) = false := by simpa using h2
      have t3 : decide ((m : Int) > 255) = true := by simp; omega
      clear hk h1 h2
      go_enter Tryz.func18, Tryz.ntmps18
      go_wp2
      all_goals
        go_ret2
        exact ⟨rfl, rfl⟩
theorem alloc_full {w : World} {g bw bh size : Nat} {l : List Thing} (h : IsAr w g bw bh size l) (k : Int) (A : Option Addr) (m c : Nat) (hk : 1 ≤ k) (hk' : k ≤ 9) (hm : m ≤ 255) (hf : size ≤ tot l + m) :
    Calls Tryz.prog 18 #[.pointer (some ⟨g, 0, none⟩), .int .i64 k, .slice A m c] w fun e w' => e = .returned (.tuple #[.int .u64 0, .int .i64 20]) ∧ w = w' := by
  have t1 : decide (k < 1) = false := by simp; omega
  have t2 : decide (k > 9) = false := by simp; omega
  have t3 : decide ((m : Int) > 255) = false := by simp; omega
  have hle := h.tot_le
  have hhi := h.hi
  have t4 : decide ((size : Int) - (tot l : Int) ≤ (m : Int)) = true := by simp; omega
  go_enter Tryz.func18, Tryz.ntmps18
  go_wp2_with (first
    | (go_at_call 37; refine (used_calls h).mono ?_; rintro e w1 ⟨rfl, rfl⟩)
    | (go_at_call 36; refine (size_calls h).mono ?_; rintro e w1 ⟨rfl, rfl⟩))
  all_goals
    go_ret2
    exact ⟨rfl, rfl⟩
theorem alloc_none (k : Int) (A : Option Addr) (m c : Nat) (w : World) (hk : 1 ≤ k) (hk' : k ≤ 9) (hm : m ≤ 255) :
    Calls Tryz.prog 18 #[.pointer none, .int .i64 k, .slice A m c] w fun e w' => e = .returned (.tuple #[.int .u64 0, .int .i64 20]) ∧ w = w' := by
  have t1 : decide (k < 1) = false := by simp; omega
  have t2 : decide (k > 9) = false := by simp; omega
  have t3 : decide ((m : Int) > 255) = false := by simp; omega
  have t4 : decide ((0 : Int) ≤ (m : Int)) = true := by simp
  go_enter Tryz.func18, Tryz.ntmps18
  go_wp2_with (first
    | (go_at_call 37; refine (used_nil _).mono ?_; rintro e w1 ⟨rfl, rfl⟩)
    | (go_at_call 36; refine (size_nil _).mono ?_; rintro e w1 ⟨rfl, rfl⟩))
  all_goals
    go_ret2
    exact ⟨rfl, rfl⟩
theorem add_plain' (b o j : Nat) : (⟨b, o, none⟩ : Addr).add j = ⟨b, o + j, none⟩ := by unfold Addr.add; split <;> simp_all
theorem copy_run {W : World} {bw n m c : Nat} {A : Option Addr} {cur xs : List Int} (hW : W.heap[bw]? = some (.cells (nums .u64 cur).toArray 41 (0, 0))) (hm : m = xs.length) (d : Nat) (hd : m ≤ d) (e : Nat)
    (hn : n + m ≤ cur.length) (B : Option Addr) (hB : m ≠ 0 → B = some ⟨bw, n, none⟩)
    (hr : xs ≠ [] → ∃ b o, A = some ⟨b, o, none⟩ ∧ ∀ j x, xs[j]? = some x → W.cell? ⟨b, o + j, none⟩ = some (.int .u64 x)) (ty : TypeId) :
    ∃ W', (Builtin.copy_ #[57, 57] ty #[.slice B d e, .slice A m c]).run Tryz.prog W = .ok (.int .i64 m) W' ∧
      W'.heap[bw]? = some (.cells (nums .u64 (cur.take n ++ xs ++ cur.drop (n + m))).toArray 41 (0, 0)) ∧ Chg [bw] W W' := by
  subst hm
  have hsz : (Tryz.prog.info? 41).map (·.size) = some 1 := by obtain ⟨i, hi, _, hs, _⟩ := info_parts infoW; rw [hi]; exact congrArg some hs
  by_cases h0 : xs = []
  · subst h0
    refine ⟨W, run_copy_none W _ _ ty _ B A d e 0 c underWs hsz (by simp), ?_, Chg.refl _ _⟩
    simpa using hW
  · have hl : 0 < xs.length := List.length_pos_iff.2 h0
    rw [hB (by omega)]
    obtain ⟨b, o, rfl, hc⟩ := hr h0
    have := run_copy_row (P := Tryz.prog) W 57 57 ty 41 bw n d e ⟨b, o, none⟩ xs.length c (nums .u64 cur).toArray 41 (nums .u64 xs) underWs hsz hW (by rw [show Nat.min xs.length d = xs.length from Nat.min_eq_left hd]; simp [nums])
      (by
        intro j v hv
        rw [add_plain']
        simp only [nums, List.getElem?_map, Option.map_eq_some_iff] at hv
        obtain ⟨x, hx, rfl⟩ := hv
        exact hc j x hx) (by simp [nums]; omega) (by intro v hv; simp only [nums, List.mem_map] at hv; obtain ⟨x, _, rfl⟩ := hv; rfl)
    have hl2 : (nums .u64 xs).length = xs.length := by simp [nums]
    rw [hl2] at this
    refine ⟨_, this, ?_, ⟨rfl, rfl, rfl, by simp [World.setRow], fun k hk hn => setRow_other W bw k _ (by simpa using hn)⟩⟩
    rw [setRow_heap W bw _ _ _ _ hW]
    simp [nums]
theorem i64_or8 {x y : Int} (hx : 0 ≤ x) (hx' : x < 1000000) (hy : 0 ≤ y) (hy' : y < 256) (hx8 : x % 256 = 0 := by omega) : Go.bits .or .i64 x y = x + y :=
  bits_join .i64 32 (by decide) (fun n h0 h1 => by rw [IntKind.wrap_i64]; omega) 8 x y hx (by simpa using hx8) (by simp; omega) hy (by simpa using hy') (by simp; omega)
theorem after_head {w : World} {g bw bh : Nat} {cg cw ch : Array Value} {uw uh : Value} (hg : w.heap[g]? = some (.cells cg 93 (0, 0))) (hw : w.heap[bw]? = some (.cells cw 41 (0, 0))) (hh : w.heap[bh]? = some (.cells ch 4 (0, 0)))
    (n : Nat) (n1 : g ≠ bw) (n2 : bh ≠ bw) (n3 : g ≠ bh) :
    ((w.setCell ⟨bw, n, none⟩ uw).setCell ⟨bh, n, none⟩ uh).drew.heap[g]? = some (.cells cg 93 (0, 0)) ∧
    ((w.setCell ⟨bw, n, none⟩ uw).setCell ⟨bh, n, none⟩ uh).drew.heap[bw]? = some (.cells (cw.setIfInBounds n uw) 41 (0, 0)) ∧
    ((w.setCell ⟨bw, n, none⟩ uw).setCell ⟨bh, n, none⟩ uh).drew.heap[bh]? = some (.cells (ch.setIfInBounds n uh) 4 (0, 0)) ∧
    Chg [g, bw, bh] w ((w.setCell ⟨bw, n, none⟩ uw).setCell ⟨bh, n, none⟩ uh).drew :=
  ⟨blk_far (blk_far hg n1 _) n3 _, blk_far (blk_set hw _ _) n2.symm _, blk_set (blk_far hh n2 _) _ _, (((Chg.refl _ _).set _ _ (.inl (by simp))).set _ _ (.inl (by simp))).drew⟩
theorem alloc_fin {w W1 : World} {g bw bh size : Nat} {l : List Thing} {k : Int} {xs zw : List Int} {zh : Nat} (hok : okT l) (lo : 1 ≤ size) (hi : size ≤ 65536) (zw0 : tot l + zw.length = size) (zh0 : tot l + zh = size)
    (hk : 1 ≤ k) (hk' : k ≤ 9) (hm : xs.length ≤ 255) (hf : tot l + xs.length < size) (ne1 : g ≠ bw) (ne2 : bh ≠ bw) (ne3 : g ≠ bh)
    (g1 : W1.heap[g]? = some (.cells #[.slice (some ⟨bw, 0, none⟩) size size, .slice (some ⟨bh, 0, none⟩) size size, .int .i64 (tot l : Int)] 93 (0, 0)))
    (g3 : W1.heap[bh]? = some (.cells (bools ((flatH l ++ List.replicate zh false).set (tot l) true)).toArray 4 (0, 0))) (ch1 : Chg [g, bw, bh] w W1)
    (W2 : World) (g4 : W2.heap[bw]? = some (.cells (nums .u64 (((flatW l ++ zw).set (tot l) ((xs.length : Int) * 256 + k)).take (tot l + 1) ++ xs ++ ((flatW l ++ zw).set (tot l) ((xs.length : Int) * 256 + k)).drop (tot l + 1 + xs.length))).toArray 41 (0, 0)))
    (ch2 : Chg [bw] W1.drew W2) (v : Int) (hv : v = (tot l : Int) + ((xs.length : Int) + 1)) :
    IsAr (W2.setCell ⟨g, 2, none⟩ (.int .i64 v)) g bw bh size (l ++ [(k, xs)]) ∧ Chg [g, bw, bh] w (W2.setCell ⟨g, 2, none⟩ (.int .i64 v)) := by
  have ht : tot (l ++ [(k, xs)]) = tot l + (xs.length + 1) := by rw [tot_append]; rfl
  have hW : flatW (l ++ [(k, xs)]) = flatW l ++ (((xs.length : Int) * 256 + k) :: xs) := by rw [flatW_append]; simp [flatW]
  have hH : flatH (l ++ [(k, xs)]) = flatH l ++ (true :: List.replicate xs.length false) := by rw [flatH_append]; simp [flatH]
  obtain ⟨z0, zw', rfl⟩ : ∃ z0 zw', zw = z0 :: zw' := by cases zw with | nil => simp at zw0; omega | cons a b => exact ⟨a, b, rfl⟩
  obtain ⟨zh', rfl⟩ : ∃ zh', zh = zh' + 1 := ⟨zh - 1, by omega⟩
  simp only [List.length_cons] at zw0
  have gb : W2.heap[bh]? = some (.cells (bools ((flatH l ++ List.replicate (zh' + 1) false).set (tot l) true)).toArray 4 (0, 0)) := ch2.at g3 (by simpa using ne2)
  have gg := ch2.at g1 (by simpa using ne1)
  refine ⟨⟨?_, ⟨zw'.drop xs.length, by rw [ht]; simp; omega, ?_⟩, ⟨zh' - xs.length, by rw [ht]; omega, ?_⟩, ?_, lo, hi⟩, ?_⟩
  · rw [blk_set gg, ht, hv]; rfl
  · rw [blk_far g4 ne1.symm, hW]
    congr 4
    rw [← flatW_len l, List.set_append_right _ _ (Nat.le_refl _), Nat.sub_self, List.set_cons_zero]
    rw [List.take_append, List.drop_append]
    rw [List.take_of_length_le (by omega), List.drop_of_length_le (by omega), show (flatW l).length + 1 - (flatW l).length = 1 by omega, show (flatW l).length + 1 + xs.length - (flatW l).length = xs.length + 1 by omega]
    simp
  · rw [blk_far gb ne3.symm, hH]
    congr 4
    rw [← flatH_len l, List.set_append_right _ _ (Nat.le_refl _), Nat.sub_self, List.replicate_succ, List.set_cons_zero, List.append_assoc, List.cons_append, List.replicate_append_replicate]
    congr 3; omega
  · intro o ho
    rcases List.mem_append.1 ho with ho | ho
    · exact hok o ho
    · simp at ho; subst ho; exact ⟨hk, hk', hm⟩
  · exact ((ch1.drew).trans ch2 (fun b hb => .inl (by simp at hb; subst hb; simp))).set _ _ (.inl (by simp))
theorem alloc_calls {w : World} {g bw bh size : Nat} {l : List Thing} (h : IsAr w g bw bh size l) (k : Int) (v : Value) (xs : List Int) (hv : Rd w [g, bw, bh] v xs) (hk : 1 ≤ k) (hk' : k ≤ 9) (hm : xs.length ≤ 255) (hf : tot l + xs.length < size) :
    Calls Tryz.prog 18 #[.pointer (some ⟨g, 0, none⟩), .int .i64 k, v] w fun e w' =>
      e = .returned (.tuple #[.int .u64 ((tot l : Int) * 8 + 1), .int .i64 0]) ∧ IsAr w' g bw bh size (l ++ [(k, xs)]) ∧ Chg [g, bw, bh] w w' := by
  obtain ⟨A, c, rfl, hr⟩ := hv
  have t1 : decide (k < 1) = false := by simp; omega
  have t2 : decide (k > 9) = false := by simp; omega
  have t3 : decide ((xs.length : Int) > 255) = false := by simp; omega
  have hle := h.tot_le
  have hhi := h.hi
  have t4 : decide ((size : Int) - (tot l : Int) ≤ (xs.length : Int)) = false := by simp; omega
  have c0 : w.cell? ⟨g, 0, none⟩ = some (.slice (some ⟨bw, 0, none⟩) size size) := by rw [blk_cell h.pt]; rfl
  have c1 : w.cell? ⟨g, 1, none⟩ = some (.slice (some ⟨bh, 0, none⟩) size size) := by rw [blk_cell h.pt]; rfl
  have c2 : w.cell? ⟨g, 2, none⟩ = some (.int .i64 (tot l : Int)) := by rw [blk_cell h.pt]; rfl
  obtain ⟨zw, zw0, hbw⟩ := h.wd
  obtain ⟨zh, zh0, hbh⟩ := h.hd
  obtain ⟨uw, hcw⟩ : ∃ u, w.cell? ⟨bw, tot l, none⟩ = some u := by
    rw [blk_cell hbw]
    exact ⟨_, Array.getElem?_eq_getElem (by simp [nums, flatW_len]; omega)⟩
  obtain ⟨uh, hch⟩ : ∃ u, w.cell? ⟨bh, tot l, none⟩ = some u := by
    rw [blk_cell hbh]
    exact ⟨_, Array.getElem?_eq_getElem (by simp [bools, flatH_len]; omega)⟩
  have fw : w.frozen? ⟨bw, tot l, none⟩ = false := blk_frozen hbw _
  have fh : w.frozen? ⟨bh, tot l, none⟩ = false := blk_frozen hbh _
  have fg : w.frozen? ⟨g, 2, none⟩ = false := blk_frozen h.pt _
  have ne1 : g ≠ bw := blk_ne h.pt hbw (by decide)
  have ne2 : bh ≠ bw := blk_ne hbh hbw (by decide)
  have ne3 : g ≠ bh := blk_ne h.pt hbh (by decide)
  have b1 : Go.bits .or .i64 ((xs.length : Int) * 256) k = (xs.length : Int) * 256 + k := i64_or8 (by omega) (by omega) (by omega) (by omega)
  have b2 : IntKind.u64.wrap ((xs.length : Int) * 256 + k) = (xs.length : Int) * 256 + k := by rw [wrap_u64]; omega
  have b3 : decide ((tot l : Int) < (size : Int)) = true := by simp; omega
  have q1 : (nums .u64 (flatW l ++ zw)).toArray.setIfInBounds (tot l) (.int .u64 ((xs.length : Int) * 256 + k)) = (nums .u64 ((flatW l ++ zw).set (tot l) ((xs.length : Int) * 256 + k))).toArray := nums_set _ _ _ _
  have q2 : (bools (flatH l ++ List.replicate zh false)).toArray.setIfInBounds (tot l) (.bool true) = (bools ((flatH l ++ List.replicate zh false).set (tot l) true)).toArray := by simp [bools, List.map_set]
  have W1 := after_head (w := w) (uw := .int .u64 ((xs.length : Int) * 256 + k)) (uh := .bool true) h.pt hbw hbh (tot l) ne1 ne2 ne3
  rw [q1, q2] at W1
  have HW1 := Lib.hid W1
  clear hbw hbh q1 q2 W1
  go_enter Tryz.func18, Tryz.ntmps18
  go_wp2_with (first
    | (go_at_call 37; refine (used_calls h).mono ?_; rintro e w1 ⟨rfl, rfl⟩)
    | (go_at_call 36; refine (size_calls h).mono ?_; rintro e w1 ⟨rfl, rfl⟩))
  go_region
  go_wp2_with fail
  generalize ((w.setCell ⟨bw, tot l, none⟩ (.int .u64 ((xs.length : Int) * 256 + k))).setCell ⟨bh, tot l, none⟩ (.bool true)).drew = W1 at *
  clear c0 c1 c2 hcw hch fw fh fg
  obtain ⟨g1, g2, g3, ch1⟩ := HW1.out
  have c0 : W1.cell? ⟨g, 0, none⟩ = some (.slice (some ⟨bw, 0, none⟩) size size) := by rw [blk_cell g1]; rfl
  have c2 : W1.cell? ⟨g, 2, none⟩ = some (.int .i64 (tot l : Int)) := by rw [blk_cell g1]; rfl
  have fg : W1.frozen? ⟨g, 2, none⟩ = false := blk_frozen g1 _
  have hr1 : xs ≠ [] → ∃ b o, A = some ⟨b, o, none⟩ ∧ ∀ j x, xs[j]? = some x → W1.drew.cell? ⟨b, o + j, none⟩ = some (.int .u64 x) := by
    intro hx
    obtain ⟨b, o, h1, h2, h3⟩ := hr hx
    refine ⟨b, o, h1, fun j x hj => ?_⟩
    have := h3 j x hj
    rw [← this]
    exact World.cell?_of_block (ch1.block b (World.block_lt_of_cell? _ _ this) h2)
  have o1 : IntKind.i64.wrap ((tot l : Int) + 1) = (tot l : Int) + 1 := by rw [IntKind.wrap_i64]; omega
  have o2 : IntKind.i64.wrap ((xs.length : Int) + 1) = (xs.length : Int) + 1 := by rw [IntKind.wrap_i64]; omega
  have hFin := fun (W2 : World) (g4 : _) (ch2 : Chg [bw] W1.drew W2) (v : Int) (hv : v = (tot l : Int) + ((xs.length : Int) + 1)) => alloc_fin (size := size) h.ok h.lo h.hi zw0 zh0 hk hk' hm hf ne1 ne2 ne3 g1 g3 ch1 W2 g4 ch2 v hv
  have HF := Lib.hid hFin
  clear hFin
  by_cases hs : size = tot l + 1
  · subst hs
    obtain ⟨W2, hrun, g4, ch2⟩ := copy_run (W := W1.drew) (bw := bw) (n := tot l + 1) (c := c) (A := A) g2 rfl 0 (by omega) 0 (by simp [flatW_len]; omega)
      (some ⟨bw, 0, none⟩) (fun h => by omega) hr1 3
    have d0 : W2.cell? ⟨g, 2, none⟩ = some (.int .i64 (tot l : Int)) := by rw [blk_cell (ch2.at g1 (by simpa using ne1))]; rfl
    have fd : W2.frozen? ⟨g, 2, none⟩ = false := blk_frozen (ch2.at g1 (by simpa using ne1)) _
    have F := HF.out W2 g4 ch2
    have HF2 := Lib.hid F
    clear F g4 g1 g2 g3
    go_region
    all_goals
      go_wp2_with (go_at_call 38; refine (of_at _ _ (by omega) (by omega)).mono ?_; rintro e w1 ⟨rfl, rfl⟩)
      go_ret2
      exact ⟨rfl, HF2.out _ (by omega)⟩
  · obtain ⟨W2, hrun, g4, ch2⟩ := copy_run (W := W1.drew) (bw := bw) (n := tot l + 1) (c := c) (A := A) g2 rfl (size - (tot l + 1)) (by omega) (size - (tot l + 1)) (by simp [flatW_len]; omega)
      (some ⟨bw, tot l + 1, none⟩) (fun h => rfl) hr1 3
    have d0 : W2.cell? ⟨g, 2, none⟩ = some (.int .i64 (tot l : Int)) := by rw [blk_cell (ch2.at g1 (by simpa using ne1))]; rfl
    have fd : W2.frozen? ⟨g, 2, none⟩ = false := blk_frozen (ch2.at g1 (by simpa using ne1)) _
    have F := HF.out W2 g4 ch2
    have HF2 := Lib.hid F
    clear F g4 g1 g2 g3
    go_region
    all_goals
      go_wp2_with (go_at_call 38; refine (of_at _ _ (by omega) (by omega)).mono ?_; rintro e w1 ⟨rfl, rfl⟩)
      go_ret2
      exact ⟨rfl, HF2.out _ (by omega)⟩
end Go.Proofs.YtomhkemdafiphaaGreatDoor.Ar
/- Small lemmas on slices that are handed to Alloc; each states its conditions. -/
namespace Go.Proofs.YtomhkemdafiphaaGreatDoor.Ar
open Go Go.RowKit Go.Proofs.YtomhkemdafiphaaGreatDoor.Heap Go.Proofs.YtomhkemdafiphaaGreatDoor.Word
theorem rd_nil (w : World) (F : List Nat) (A : Option Addr) (c : Nat) : Rd w F (.slice A 0 c) [] := ⟨A, c, rfl, fun h => absurd rfl h⟩
theorem rd_new {w : World} {F : List Nat} (xs : List Int) (cs : Array Value) (t : TypeId) (hcs : cs = (nums .u64 xs).toArray) (hF : ∀ b, b ∈ F → b < w.heap.size) (c n k : Nat) (hn : n = xs.length) (hk : k = w.heap.size) :
    Rd (w.alloc (.cells cs t)) F (.slice (some ⟨k, 0, none⟩) n c) xs := by
  subst hcs hn hk
  refine ⟨_, c, rfl, fun _ => ⟨_, _, rfl, fun h => Nat.lt_irrefl _ (hF _ h), fun j x hj => ?_⟩⟩
  rw [blk_cell (blk_new rfl), Nat.zero_add, nums_get, hj]; rfl
theorem IsAr.lt {w : World} {g bw bh size : Nat} {l : List Thing} (h : IsAr w g bw bh size l) : ∀ b, b ∈ [g, bw, bh] → b < w.heap.size := by
  intro b hb
  simp only [List.mem_cons, List.not_mem_nil, or_false] at hb
  rcases hb with rfl | rfl | rfl
  · exact blk_lt h.pt
  · obtain ⟨z, _, hz⟩ := h.wd; exact blk_lt hz
  · obtain ⟨z, _, hz⟩ := h.hd; exact blk_lt hz
theorem rd_own {w : World} {F : List Nat} {base : Nat} {e : TypeId} {n : Nat} {v : Value} {xs : List Int} (h : w.ownsRow base e 1 v n (nums .u64 xs)) (hF : ∀ b, b ∈ F → b < base) : Rd w F v xs := by
  have hn : xs.length = n := by have := h.1; simpa [nums] using this
  subst hn
  rcases h.2 with ⟨rfl, h0⟩ | ⟨g, cap, cur, rfl, hb, hg, _, _, _, ht⟩
  · exact ⟨none, 0, by rw [h0], fun hx => absurd (List.eq_nil_of_length_eq_zero h0) hx⟩
  · refine ⟨_, cap, rfl, fun _ => ⟨g, 0, rfl, fun hm => ?_, fun j x hj => ?_⟩⟩
    · have := hF g hm; omega
    · have hjl : j < xs.length := (List.getElem?_eq_some_iff.1 hj).1
      have h2 : (cur.toList.take (xs.length * 1))[j]? = some (.int .u64 x) := by rw [ht]; simp [nums, hj]
      rw [blk_cell hg, Nat.zero_add]
      rw [List.getElem?_take, if_pos (by omega)] at h2
      simpa using h2
theorem IsAr.drewN {w : World} {g bw bh size : Nat} {l : List Thing} (h : IsAr w g bw bh size l) (n : Nat) : IsAr (w.drewN n) g bw bh size l := ⟨h.pt, h.wd, h.hd, h.ok, h.lo, h.hi⟩
theorem IsAr.drew {w : World} {g bw bh size : Nat} {l : List Thing} (h : IsAr w g bw bh size l) : IsAr w.drew g bw bh size l := ⟨h.pt, h.wd, h.hd, h.ok, h.lo, h.hi⟩
end Go.Proofs.YtomhkemdafiphaaGreatDoor.Ar

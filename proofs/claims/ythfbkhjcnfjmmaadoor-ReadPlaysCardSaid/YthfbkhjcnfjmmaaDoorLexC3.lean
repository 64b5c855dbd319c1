/- The contract of passed; each states its conditions. -/
import Derived.Test.YthfbkhjcnfjmmaaDoorLexC2
import Derived.Lib.Hide
namespace Go.Proofs.YthfbkhjcnfjmmaaDoor.LexC
open Go Go.RowKit Go.Proofs.YthfbkhjcnfjmmaaDoor.LexP
/-- the bytes of the document's reference that may stand in a name, beside letters and digits -/
def signsL : List UInt8 := [33, 36, 37, 38, 42, 43, 45, 47, 58, 60, 61, 62, 63, 94, 95, 126]
theorem isLetter_in (c : UInt8) : isLetter c = (decide (97 ≤ c.toNat ∧ c.toNat ≤ 122) || decide (65 ≤ c.toNat ∧ c.toNat ≤ 90) || decide (48 ≤ c.toNat ∧ c.toNat ≤ 57) || signsL.contains c) := by
  have key : ∀ n < 256, isLetter (UInt8.ofNat n) = (decide (97 ≤ (UInt8.ofNat n).toNat ∧ (UInt8.ofNat n).toNat ≤ 122) || decide (65 ≤ (UInt8.ofNat n).toNat ∧ (UInt8.ofNat n).toNat ≤ 90) || decide (48 ≤ (UInt8.ofNat n).toNat ∧ (UInt8.ofNat n).toNat ≤ 57) || signsL.contains (UInt8.ofNat n)) := by decide +kernel
  have := key c.toNat c.toNat_lt
  rwa [UInt8.ofNat_toNat] at this
def intOfL : Value → Int | .int _ q => q | _ => 0
set_option maxHeartbeats 4000000 in
/-- the reference's letter -/
theorem refletter_calls (c : UInt8) (w : World) :
    Calls Tryd.prog 30 #[.int .u8 (c.toNat : Nat)] w fun e w' => e = .returned (.bool (isLetter c)) ∧ Below w.heap.size w w' := by
  rw [isLetter_in]
  have hc := c.toNat_lt
  have hk : (97 ≤ c.toNat ∧ c.toNat ≤ 122) ∨ 122 < c.toNat ∨ (90 < c.toNat ∧ c.toNat < 97) ∨ (65 ≤ c.toNat ∧ c.toNat ≤ 90) ∨ (57 < c.toNat ∧ c.toNat < 65) ∨ (48 ≤ c.toNat ∧ c.toNat ≤ 57) ∨ c.toNat < 48 := by omega
  rcases hk with h | h | h | h | h | h | h
  · have c97 : decide (97 ≤ ((c.toNat : Nat) : Int)) = true := decide_eq_true (by omega)
    have d97 : decide (97 ≤ c.toNat) = true := decide_eq_true (by omega)
    have c122 : decide (((c.toNat : Nat) : Int) ≤ 122) = true := decide_eq_true (by omega)
    have d122 : decide (c.toNat ≤ 122) = true := decide_eq_true (by omega)
    have hx : (decide (97 ≤ c.toNat ∧ c.toNat ≤ 122) || decide (65 ≤ c.toNat ∧ c.toNat ≤ 90) || decide (48 ≤ c.toNat ∧ c.toNat ≤ 57) || signsL.contains c) = true := by simp [h]
    rw [hx]; clear hx h
    go_enter Tryd.func30, Tryd.ntmps30
    go_wp2
    go_ret
    exact ⟨rfl, Below.refl _ _⟩
  · have c97 : decide (97 ≤ ((c.toNat : Nat) : Int)) = true := decide_eq_true (by omega)
    have d97 : decide (97 ≤ c.toNat) = true := decide_eq_true (by omega)
    have c122 : decide (((c.toNat : Nat) : Int) ≤ 122) = false := decide_eq_false (by omega)
    have d122 : decide (c.toNat ≤ 122) = false := decide_eq_false (by omega)
    have c65 : decide (65 ≤ ((c.toNat : Nat) : Int)) = true := decide_eq_true (by omega)
    have d65 : decide (65 ≤ c.toNat) = true := decide_eq_true (by omega)
    have c90 : decide (((c.toNat : Nat) : Int) ≤ 90) = false := decide_eq_false (by omega)
    have d90 : decide (c.toNat ≤ 90) = false := decide_eq_false (by omega)
    have c48 : decide (48 ≤ ((c.toNat : Nat) : Int)) = true := decide_eq_true (by omega)
    have d48 : decide (48 ≤ c.toNat) = true := decide_eq_true (by omega)
    have c57 : decide (((c.toNat : Nat) : Int) ≤ 57) = false := decide_eq_false (by omega)
    have d57 : decide (c.toNat ≤ 57) = false := decide_eq_false (by omega)
    have hx : (decide (97 ≤ c.toNat ∧ c.toNat ≤ 122) || decide (65 ≤ c.toNat ∧ c.toNat ≤ 90) || decide (48 ≤ c.toNat ∧ c.toNat ≤ 57) || signsL.contains c) = signsL.contains c := by
      rw [decide_eq_false (by omega : ¬ (97 ≤ c.toNat ∧ c.toNat ≤ 122)), decide_eq_false (by omega : ¬ (65 ≤ c.toNat ∧ c.toNat ≤ 90)), decide_eq_false (by omega : ¬ (48 ≤ c.toNat ∧ c.toNat ≤ 57))]; rfl
    rw [hx]; clear hx h
    go_enter Tryd.func30, Tryd.ntmps30
    go_wp2
    generalize hq : (⟨#[33, 36, 37, 38, 42, 43, 45, 47, 58, 60, 61, 62, 63, 94, 95, 126]⟩ : ByteArray) = x
    have hx : Hid (x.data.toList = signsL) := by rw [← hq]; rfl
    have hsz : x.size = 16 := by rw [← hq]; rfl
    clear hq
    go_loopw [4] (fun i w' => ∃ (k : Nat), i = .int .i64 k ∧ k ≤ 16 ∧ (∀ j b, j < k → x.data.toList[j]? = some b → b ≠ c) ∧ w' = w) (fun i _ => 16 - (intOfL i).toNat)
    case atStart => exact ⟨0, rfl, by omega, fun j b h => absurd h (by omega), rfl⟩
    case round =>
      obtain ⟨k, rfl, hk, hall, rfl⟩ := hrel
      by_cases hp : k < x.size
      · have e0 : decide ((k : Int) < (x.size : Int)) = true := decide_eq_true (by omega)
        have e0' : decide (k < x.size) = true := decide_eq_true hp
        have hat : x.data.toList[k]? = some (x[k]'hp) := Lib.data_getElem? x k hp
        by_cases he : x[k]'hp = c
        · have e1 : ((((x[k]'hp).toNat : Nat) : Int) == ((c.toNat : Nat) : Int)) = true := by rw [he]; simp
          go_wp2
          go_ret
          refine ⟨?_, Below.refl _ _⟩
          have hm : signsL.contains c = true := by
            rw [← show x.data.toList = signsL from hx]
            exact List.elem_eq_true_of_mem (by rw [← he]; exact List.mem_of_getElem? hat)
          rw [hm]; rfl
        · have hne : ¬ (x[k]'hp).toNat = c.toNat := fun h => he (UInt8.toNat_inj.1 h)
          have e1 : ((((x[k]'hp).toNat : Nat) : Int) == ((c.toNat : Nat) : Int)) = false := by simpa using fun h => hne (by omega)
          go_wp2
          go_roundw
          case rel => exact ⟨k + 1, by simp, by omega, fun j b hj hb => by
            by_cases h : j = k
            · subst h; rw [hat] at hb; injection hb with hb; rw [← hb]; exact he
            · exact hall j b (by omega) hb, trivial⟩
          case measure => simp [intOfL]; omega
      · have e0 : decide ((k : Int) < (x.size : Int)) = false := decide_eq_false (by omega)
        have e0' : decide (k < x.size) = false := decide_eq_false hp
        go_wp2
        go_ret
        refine ⟨?_, Below.refl _ _⟩
        have hm : signsL.contains c = false := by
          rw [← show x.data.toList = signsL from hx, Bool.eq_false_iff]
          intro h
          obtain ⟨i, hi, hic⟩ := List.getElem_of_mem (List.mem_of_elem_eq_true h)
          exact hall i c (by rw [← Lib.size_eq] at hi; omega) (by rw [List.getElem?_eq_getElem hi, hic]) rfl
        rw [hm]; rfl
  · have c97 : decide (97 ≤ ((c.toNat : Nat) : Int)) = false := decide_eq_false (by omega)
    have d97 : decide (97 ≤ c.toNat) = false := decide_eq_false (by omega)
    have c65 : decide (65 ≤ ((c.toNat : Nat) : Int)) = true := decide_eq_true (by omega)
    have d65 : decide (65 ≤ c.toNat) = true := decide_eq_true (by omega)
    have c90 : decide (((c.toNat : Nat) : Int) ≤ 90) = false := decide_eq_false (by omega)
    have d90 : decide (c.toNat ≤ 90) = false := decide_eq_false (by omega)
    have c48 : decide (48 ≤ ((c.toNat : Nat) : Int)) = true := decide_eq_true (by omega)
    have d48 : decide (48 ≤ c.toNat) = true := decide_eq_true (by omega)
    have c57 : decide (((c.toNat : Nat) : Int) ≤ 57) = false := decide_eq_false (by omega)
    have d57 : decide (c.toNat ≤ 57) = false := decide_eq_false (by omega)
    have hx : (decide (97 ≤ c.toNat ∧ c.toNat ≤ 122) || decide (65 ≤ c.toNat ∧ c.toNat ≤ 90) || decide (48 ≤ c.toNat ∧ c.toNat ≤ 57) || signsL.contains c) = signsL.contains c := by
      rw [decide_eq_false (by omega : ¬ (97 ≤ c.toNat ∧ c.toNat ≤ 122)), decide_eq_false (by omega : ¬ (65 ≤ c.toNat ∧ c.toNat ≤ 90)), decide_eq_false (by omega : ¬ (48 ≤ c.toNat ∧ c.toNat ≤ 57))]; rfl
    rw [hx]; clear hx h
    go_enter Tryd.func30, Tryd.ntmps30
    go_wp2
    generalize hq : (⟨#[33, 36, 37, 38, 42, 43, 45, 47, 58, 60, 61, 62, 63, 94, 95, 126]⟩ : ByteArray) = x
    have hx : Hid (x.data.toList = signsL) := by rw [← hq]; rfl
    have hsz : x.size = 16 := by rw [← hq]; rfl
    clear hq
    go_loopw [4] (fun i w' => ∃ (k : Nat), i = .int .i64 k ∧ k ≤ 16 ∧ (∀ j b, j < k → x.data.toList[j]? = some b → b ≠ c) ∧ w' = w) (fun i _ => 16 - (intOfL i).toNat)
    case atStart => exact ⟨0, rfl, by omega, fun j b h => absurd h (by omega), rfl⟩
    case round =>
      obtain ⟨k, rfl, hk, hall, rfl⟩ := hrel
      by_cases hp : k < x.size
      · have e0 : decide ((k : Int) < (x.size : Int)) = true := decide_eq_true (by omega)
        have e0' : decide (k < x.size) = true := decide_eq_true hp
        have hat : x.data.toList[k]? = some (x[k]'hp) := Lib.data_getElem? x k hp
        by_cases he : x[k]'hp = c
        · have e1 : ((((x[k]'hp).toNat : Nat) : Int) == ((c.toNat : Nat) : Int)) = true := by rw [he]; simp
          go_wp2
          go_ret
          refine ⟨?_, Below.refl _ _⟩
          have hm : signsL.contains c = true := by
            rw [← show x.data.toList = signsL from hx]
            exact List.elem_eq_true_of_mem (by rw [← he]; exact List.mem_of_getElem? hat)
          rw [hm]; rfl
        · have hne : ¬ (x[k]'hp).toNat = c.toNat := fun h => he (UInt8.toNat_inj.1 h)
          have e1 : ((((x[k]'hp).toNat : Nat) : Int) == ((c.toNat : Nat) : Int)) = false := by simpa using fun h => hne (by omega)
          go_wp2
          go_roundw
          case rel => exact ⟨k + 1, by simp, by omega, fun j b hj hb => by
            by_cases h : j = k
            · subst h; rw [hat] at hb; injection hb with hb; rw [← hb]; exact he
            · exact hall j b (by omega) hb, trivial⟩
          case measure => simp [intOfL]; omega
      · have e0 : decide ((k : Int) < (x.size : Int)) = false := decide_eq_false (by omega)
        have e0' : decide (k < x.size) = false := decide_eq_false hp
        go_wp2
        go_ret
        refine ⟨?_, Below.refl _ _⟩
        have hm : signsL.contains c = false := by
          rw [← show x.data.toList = signsL from hx, Bool.eq_false_iff]
          intro h
          obtain ⟨i, hi, hic⟩ := List.getElem_of_mem (List.mem_of_elem_eq_true h)
          exact hall i c (by rw [← Lib.size_eq] at hi; omega) (by rw [List.getElem?_eq_getElem hi, hic]) rfl
        rw [hm]; rfl
  · have c97 : decide (97 ≤ ((c.toNat : Nat) : Int)) = false := decide_eq_false (by omega)
    have d97 : decide (97 ≤ c.toNat) = false := decide_eq_false (by omega)
    have c65 : decide (65 ≤ ((c.toNat : Nat) : Int)) = true := decide_eq_true (by omega)
    have d65 : decide (65 ≤ c.toNat) = true := decide_eq_true (by omega)
    have c90 : decide (((c.toNat : Nat) : Int) ≤ 90) = true := decide_eq_true (by omega)
    have d90 : decide (c.toNat ≤ 90) = true := decide_eq_true (by omega)
    have hx : (decide (97 ≤ c.toNat ∧ c.toNat ≤ 122) || decide (65 ≤ c.toNat ∧ c.toNat ≤ 90) || decide (48 ≤ c.toNat ∧ c.toNat ≤ 57) || signsL.contains c) = true := by simp [h]
    rw [hx]; clear hx h
    go_enter Tryd.func30, Tryd.ntmps30
    go_wp2
    go_ret
    exact ⟨rfl, Below.refl _ _⟩
  · have c97 : decide (97 ≤ ((c.toNat : Nat) : Int)) = false := decide_eq_false (by omega)
    have d97 : decide (97 ≤ c.toNat) = false := decide_eq_false (by omega)
    have c65 : decide (65 ≤ ((c.toNat : Nat) : Int)) = false := decide_eq_false (by omega)
    have d65 : decide (65 ≤ c.toNat) = false := decide_eq_false (by omega)
    have c48 : decide (48 ≤ ((c.toNat : Nat) : Int)) = true := decide_eq_true (by omega)
    have d48 : decide (48 ≤ c.toNat) = true := decide_eq_true (by omega)
    have c57 : decide (((c.toNat : Nat) : Int) ≤ 57) = false := decide_eq_false (by omega)
    have d57 : decide (c.toNat ≤ 57) = false := decide_eq_false (by omega)
    have hx : (decide (97 ≤ c.toNat ∧ c.toNat ≤ 122) || decide (65 ≤ c.toNat ∧ c.toNat ≤ 90) || decide (48 ≤ c.toNat ∧ c.toNat ≤ 57) || signsL.contains c) = signsL.contains c := by
      rw [decide_eq_false (by omega : ¬ (97 ≤ c.toNat ∧ c.toNat ≤ 122)), decide_eq_false (by omega : ¬ (65 ≤ c.toNat ∧ c.toNat ≤ 90)), decide_eq_false (by omega : ¬ (48 ≤ c.toNat ∧ c.toNat ≤ 57))]; rfl
    rw [hx]; clear hx h
    go_enter Tryd.func30, Tryd.ntmps30
    go_wp2
    generalize hq : (⟨#[33, 36, 37, 38, 42, 43, 45, 47, 58, 60, 61, 62, 63, 94, 95, 126]⟩ : ByteArray) = x
    have hx : Hid (x.data.toList = signsL) := by rw [← hq]; rfl
    have hsz : x.size = 16 := by rw [← hq]; rfl
    clear hq
    go_loopw [4] (fun i w' => ∃ (k : Nat), i = .int .i64 k ∧ k ≤ 16 ∧ (∀ j b, j < k → x.data.toList[j]? = some b → b ≠ c) ∧ w' = w) (fun i _ => 16 - (intOfL i).toNat)
    case atStart => exact ⟨0, rfl, by omega, fun j b h => absurd h (by omega), rfl⟩
    case round =>
      obtain ⟨k, rfl, hk, hall, rfl⟩ := hrel
      by_cases hp : k < x.size
      · have e0 : decide ((k : Int) < (x.size : Int)) = true := decide_eq_true (by omega)
        have e0' : decide (k < x.size) = true := decide_eq_true hp
        have hat : x.data.toList[k]? = some (x[k]'hp) := Lib.data_getElem? x k hp
        by_cases he : x[k]'hp = c
        · have e1 : ((((x[k]'hp).toNat : Nat) : Int) == ((c.toNat : Nat) : Int)) = true := by rw [he]; simp
          go_wp2
          go_ret
          refine ⟨?_, Below.refl _ _⟩
          have hm : signsL.contains c = true := by
            rw [← show x.data.toList = signsL from hx]
            exact List.elem_eq_true_of_mem (by rw [← he]; exact List.mem_of_getElem? hat)
          rw [hm]; rfl
        · have hne : ¬ (x[k]'hp).toNat = c.toNat := fun h => he (UInt8.toNat_inj.1 h)
          have e1 : ((((x[k]'hp).toNat : Nat) : Int) == ((c.toNat : Nat) : Int)) = false := by simpa using fun h => hne (by omega)
          go_wp2
          go_roundw
          case rel => exact ⟨k + 1, by simp, by omega, fun j b hj hb => by
            by_cases h : j = k
            · subst h; rw [hat] at hb; injection hb with hb; rw [← hb]; exact he
            · exact hall j b (by omega) hb, trivial⟩
          case measure => simp [intOfL]; omega
      · have e0 : decide ((k : Int) < (x.size : Int)) = false := decide_eq_false (by omega)
        have e0' : decide (k < x.size) = false := decide_eq_false hp
        go_wp2
        go_ret
        refine ⟨?_, Below.refl _ _⟩
        have hm : signsL.contains c = false := by
          rw [← show x.data.toList = signsL from hx, Bool.eq_false_iff]
          intro h
          obtain ⟨i, hi, hic⟩ := List.getElem_of_mem (List.mem_of_elem_eq_true h)
          exact hall i c (by rw [← Lib.size_eq] at hi; omega) (by rw [List.getElem?_eq_getElem hi, hic]) rfl
        rw [hm]; rfl
  · have c97 : decide (97 ≤ ((c.toNat : Nat) : Int)) = false := decide_eq_false (by omega)
    have d97 : decide (97 ≤ c.toNat) = false := decide_eq_false (by omega)
    have c65 : decide (65 ≤ ((c.toNat : Nat) : Int)) = false := decide_eq_false (by omega)
    have d65 : decide (65 ≤ c.toNat) = false := decide_eq_false (by omega)
    have c48 : decide (48 ≤ ((c.toNat : Nat) : Int)) = true := decide_eq_true (by omega)
    have d48 : decide (48 ≤ c.toNat) = true := decide_eq_true (by omega)
    have c57 : decide (((c.toNat : Nat) : Int) ≤ 57) = true := decide_eq_true (by omega)
    have d57 : decide (c.toNat ≤ 57) = true := decide_eq_true (by omega)
    have hx : (decide (97 ≤ c.toNat ∧ c.toNat ≤ 122) || decide (65 ≤ c.toNat ∧ c.toNat ≤ 90) || decide (48 ≤ c.toNat ∧ c.toNat ≤ 57) || signsL.contains c) = true := by simp [h]
    rw [hx]; clear hx h
    go_enter Tryd.func30, Tryd.ntmps30
    go_wp2
    go_ret
    exact ⟨rfl, Below.refl _ _⟩
  · have c97 : decide (97 ≤ ((c.toNat : Nat) : Int)) = false := decide_eq_false (by omega)
    have d97 : decide (97 ≤ c.toNat) = false := decide_eq_false (by omega)
    have c65 : decide (65 ≤ ((c.toNat : Nat) : Int)) = false := decide_eq_false (by omega)
    have d65 : decide (65 ≤ c.toNat) = false := decide_eq_false (by omega)
    have c48 : decide (48 ≤ ((c.toNat : Nat) : Int)) = false := decide_eq_false (by omega)
    have d48 : decide (48 ≤ c.toNat) = false := decide_eq_false (by omega)
    have hx : (decide (97 ≤ c.toNat ∧ c.toNat ≤ 122) || decide (65 ≤ c.toNat ∧ c.toNat ≤ 90) || decide (48 ≤ c.toNat ∧ c.toNat ≤ 57) || signsL.contains c) = signsL.contains c := by
      rw [decide_eq_false (by omega : ¬ (97 ≤ c.toNat ∧ c.toNat ≤ 122)), decide_eq_false (by omega : ¬ (65 ≤ c.toNat ∧ c.toNat ≤ 90)), decide_eq_false (by omega : ¬ (48 ≤ c.toNat ∧ c.toNat ≤ 57))]; rfl
    rw [hx]; clear hx h
    go_enter Tryd.func30, Tryd.ntmps30
    go_wp2
    generalize hq : (⟨#[33, 36, 37, 38, 42, 43, 45, 47, 58, 60, 61, 62, 63, 94, 95, 126]⟩ : ByteArray) = x
    have hx : Hid (x.data.toList = signsL) := by rw [← hq]; rfl
    have hsz : x.size = 16 := by rw [← hq]; rfl
    clear hq
    go_loopw [4] (fun i w' => ∃ (k : Nat), i = .int .i64 k ∧ k ≤ 16 ∧ (∀ j b, j < k → x.data.toList[j]? = some b → b ≠ c) ∧ w' = w) (fun i _ => 16 - (intOfL i).toNat)
    case atStart => exact ⟨0, rfl, by omega, fun j b h => absurd h (by omega), rfl⟩
    case round =>
      obtain ⟨k, rfl, hk, hall, rfl⟩ := hrel
      by_cases hp : k < x.size
      · have e0 : decide ((k : Int) < (x.size : Int)) = true := decide_eq_true (by omega)
        have e0' : decide (k < x.size) = true := decide_eq_true hp
        have hat : x.data.toList[k]? = some (x[k]'hp) := Lib.data_getElem? x k hp
        by_cases he : x[k]'hp = c
        · have e1 : ((((x[k]'hp).toNat : Nat) : Int) == ((c.toNat : Nat) : Int)) = true := by rw [he]; simp
          go_wp2
          go_ret
          refine ⟨?_, Below.refl _ _⟩
          have hm : signsL.contains c = true := by
            rw [← show x.data.toList = signsL from hx]
            exact List.elem_eq_true_of_mem (by rw [← he]; exact List.mem_of_getElem? hat)
          rw [hm]; rfl
        · have hne : ¬ (x[k]'hp).toNat = c.toNat := fun h => he (UInt8.toNat_inj.1 h)
          have e1 : ((((x[k]'hp).toNat : Nat) : Int) == ((c.toNat : Nat) : Int)) = false := by simpa using fun h => hne (by omega)
          go_wp2
          go_roundw
          case rel => exact ⟨k + 1, by simp, by omega, fun j b hj hb => by
            by_cases h : j = k
            · subst h; rw [hat] at hb; injection hb with hb; rw [← hb]; exact he
            · exact hall j b (by omega) hb, trivial⟩
          case measure => simp [intOfL]; omega
      · have e0 : decide ((k : Int) < (x.size : Int)) = false := decide_eq_false (by omega)
        have e0' : decide (k < x.size) = false := decide_eq_false hp
        go_wp2
        go_ret
        refine ⟨?_, Below.refl _ _⟩
        have hm : signsL.contains c = false := by
          rw [← show x.data.toList = signsL from hx, Bool.eq_false_iff]
          intro h
          obtain ⟨i, hi, hic⟩ := List.getElem_of_mem (List.mem_of_elem_eq_true h)
          exact hall i c (by rw [← Lib.size_eq] at hi; omega) (by rw [List.getElem?_eq_getElem hi, hic]) rfl
        rw [hm]; rfl
end Go.Proofs.YthfbkhjcnfjmmaaDoor.LexC

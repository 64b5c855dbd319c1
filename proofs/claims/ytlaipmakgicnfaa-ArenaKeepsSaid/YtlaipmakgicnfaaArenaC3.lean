/- Contracts of Kind, Len, at and Get; each states its conditions. -/
import Derived.Test.YtlaipmakgicnfaaArenaC2
namespace Go.Proofs.Ytlaipmakgicnfaa.Ar
open Go Go.RowKit Go.Proofs.Ytlaipmakgicnfaa.Heap Go.Proofs.Ytlaipmakgicnfaa.Word
/-- Kind, Len, Get: what is told -/
def kindA (l : List Thing) (x : Int) : Int := match place l x with | some o => o.1 | none => 0
def lenA (l : List Thing) (x : Int) : Int := match place l x with | some o => o.2.length | none => 0
def getA (l : List Thing) (x i : Int) : Int × Int := match place l x with
  | some o => if 0 ≤ i ∧ i < o.2.length then (o.2.getD i.toNat 0, 0) else (0, 1)
  | none => (0, 2)
def setA (l : List Thing) (x i v : Int) : List Thing × Int := match place l x with
  | some o => if 0 ≤ i ∧ i < o.2.length then (setT l (x / 8).toNat i.toNat v, 0) else (l, 1)
  | none => (l, 2)
theorem kind_calls {w : World} {g bw bh size : Nat} {l : List Thing} (h : IsAr w g bw bh size l) (x : Int) (h0 : 0 ≤ x) (h8 : x < 18446744073709551616) :
    Calls Try.prog 15 #[.pointer (some ⟨g, 0, none⟩), .int .u64 x] w fun e w' => e = .returned (.int .i64 (kindA l x)) ∧ w = w' := by
  unfold kindA
  cases hp : place l x with
  | some o =>
    have F := fun W (h : IsAr W g bw bh size l) => find_yes h x h0 h8 o hp
    simp only []
    go_enter Try.func15, Try.ntmps15
    go_wp2_with (go_at_call 27; refine (F _ h).mono ?_; rintro e w1 ⟨rfl, rfl⟩)
    all_goals
      go_ret
      exact ⟨rfl, rfl⟩
  | none =>
    have F := fun W (h : IsAr W g bw bh size l) => find_no h x h0 h8 hp
    simp only []
    go_enter Try.func15, Try.ntmps15
    go_wp2_with (go_at_call 27; refine (F _ h).mono ?_; rintro e w1 ⟨rfl, rfl⟩)
    all_goals
      go_ret
      exact ⟨rfl, rfl⟩
theorem len_calls {w : World} {g bw bh size : Nat} {l : List Thing} (h : IsAr w g bw bh size l) (x : Int) (h0 : 0 ≤ x) (h8 : x < 18446744073709551616) :
    Calls Try.prog 16 #[.pointer (some ⟨g, 0, none⟩), .int .u64 x] w fun e w' => e = .returned (.int .i64 (lenA l x)) ∧ w = w' := by
  unfold lenA
  cases hp : place l x with
  | some o =>
    have F := fun W (h : IsAr W g bw bh size l) => find_yes h x h0 h8 o hp
    simp only []
    go_enter Try.func16, Try.ntmps16
    go_wp2_with (go_at_call 27; refine (F _ h).mono ?_; rintro e w1 ⟨rfl, rfl⟩)
    all_goals
      go_ret
      exact ⟨rfl, rfl⟩
  | none =>
    have F := fun W (h : IsAr W g bw bh size l) => find_no h x h0 h8 hp
    simp only []
    go_enter Try.func16, Try.ntmps16
    go_wp2_with (go_at_call 27; refine (F _ h).mono ?_; rintro e w1 ⟨rfl, rfl⟩)
    all_goals
      go_ret
      exact ⟨rfl, rfl⟩
theorem kind_nil (x : Int) (w : World) (h0 : 0 ≤ x) (h8 : x < 18446744073709551616) :
    Calls Try.prog 15 #[.pointer none, .int .u64 x] w fun e w' => e = .returned (.int .i64 0) ∧ w = w' := by
  go_enter Try.func15, Try.ntmps15
  go_wp2_with (go_at_call 27; refine (find_nil x _ h0 h8).mono ?_; rintro e w1 ⟨rfl, rfl⟩)
  go_ret
  exact ⟨rfl, rfl⟩
theorem len_nil (x : Int) (w : World) (h0 : 0 ≤ x) (h8 : x < 18446744073709551616) :
    Calls Try.prog 16 #[.pointer none, .int .u64 x] w fun e w' => e = .returned (.int .i64 0) ∧ w = w' := by
  go_enter Try.func16, Try.ntmps16
  go_wp2_with (go_at_call 27; refine (find_nil x _ h0 h8).mono ?_; rintro e w1 ⟨rfl, rfl⟩)
  go_ret
  exact ⟨rfl, rfl⟩
theorem at_yes {w : World} {g bw bh size : Nat} {l : List Thing} (h : IsAr w g bw bh size l) (x i : Int) (h0 : 0 ≤ x) (h8 : x < 18446744073709551616) (o : Thing) (hp : place l x = some o) (hi : 0 ≤ i) (hi' : i < o.2.length) :
    Calls Try.prog 26 #[.pointer (some ⟨g, 0, none⟩), .int .u64 x, .int .i64 i] w fun e w' =>
      e = .returned (.tuple #[.pointer (some ⟨bw, (x / 8).toNat + 1 + i.toNat, none⟩), .int .i64 0]) ∧ w = w' := by
  have F := fun W (h : IsAr W g bw bh size l) => find_yes h x h0 h8 o hp
  rw [if_neg (show ¬ o.2.length = 0 by omega)] at F
  obtain ⟨j, rfl⟩ := Int.eq_ofNat_of_zero_le hi
  have t1 : decide ((j : Int) < 0) = false := by simp
  have t2 : decide ((j : Int) ≥ (o.2.length : Int)) = false := by simp; omega
  rw [Int.toNat_natCast]
  have hj : j < o.2.length := by omega
  generalize o.2.length = m at *
  generalize o.1 = kd at *
  generalize (x / 8).toNat = n at *
  clear hi hi' hp
  go_enter Try.func26, Try.ntmps26
  go_wp2_with (go_at_call 27; refine (F _ h).mono ?_; rintro e w1 ⟨rfl, rfl⟩)
  all_goals
    go_ret2
    exact ⟨rfl, rfl⟩
theorem at_out {w : World} {g bw bh size : Nat} {l : List Thing} (h : IsAr w g bw bh size l) (x i : Int) (h0 : 0 ≤ x) (h8 : x < 18446744073709551616) (o : Thing) (hp : place l x = some o) (hi : ¬ (0 ≤ i ∧ i < o.2.length)) :
    Calls Try.prog 26 #[.pointer (some ⟨g, 0, none⟩), .int .u64 x, .int .i64 i] w fun e w' =>
      e = .returned (.tuple #[.pointer none, .int .i64 1]) ∧ w = w' := by
  have F := fun W (h : IsAr W g bw bh size l) => find_yes h x h0 h8 o hp
  by_cases t0 : i < 0
  · have t1 : decide (i < 0) = true := by simpa using t0
    clear hp hi
    go_enter Try.func26, Try.ntmps26
    go_wp2_with (go_at_call 27; refine (F _ h).mono ?_; rintro e w1 ⟨rfl, rfl⟩)
    all_goals
      go_ret2
      exact ⟨rfl, rfl⟩
  · have t1 : decide (i < 0) = false := by simpa using t0
    have t2 : decide (i ≥ (o.2.length : Int)) = true := by simp; omega
    clear hp hi
    go_enter Try.func26, Try.ntmps26
    go_wp2_with (go_at_call 27; refine (F _ h).mono ?_; rintro e w1 ⟨rfl, rfl⟩)
    all_goals
      go_ret2
      exact ⟨rfl, rfl⟩
theorem at_no {w : World} {g bw bh size : Nat} {l : List Thing} (h : IsAr w g bw bh size l) (x i : Int) (h0 : 0 ≤ x) (h8 : x < 18446744073709551616) (hp : place l x = none) :
    Calls Try.prog 26 #[.pointer (some ⟨g, 0, none⟩), .int .u64 x, .int .i64 i] w fun e w' =>
      e = .returned (.tuple #[.pointer none, .int .i64 2]) ∧ w = w' := by
  have F := fun W (h : IsAr W g bw bh size l) => find_no h x h0 h8 hp
  clear hp
  go_enter Try.func26, Try.ntmps26
  go_wp2_with (go_at_call 27; refine (F _ h).mono ?_; rintro e w1 ⟨rfl, rfl⟩)
  all_goals
    go_ret2
    exact ⟨rfl, rfl⟩
theorem at_nil (x i : Int) (w : World) (h0 : 0 ≤ x) (h8 : x < 18446744073709551616) :
    Calls Try.prog 26 #[.pointer none, .int .u64 x, .int .i64 i] w fun e w' =>
      e = .returned (.tuple #[.pointer none, .int .i64 2]) ∧ w = w' := by
  go_enter Try.func26, Try.ntmps26
  go_wp2_with (go_at_call 27; refine (find_nil x _ h0 h8).mono ?_; rintro e w1 ⟨rfl, rfl⟩)
  all_goals
    go_ret2
    exact ⟨rfl, rfl⟩
theorem get_nil (x i : Int) (w : World) (h0 : 0 ≤ x) (h8 : x < 18446744073709551616) :
    Calls Try.prog 13 #[.pointer none, .int .u64 x, .int .i64 i] w fun e w' => e = .returned (.tuple #[.int .u64 0, .int .i64 2]) ∧ w = w' := by
  go_enter Try.func13, Try.ntmps13
  go_wp2_with (go_at_call 26; refine (at_nil x i _ h0 h8).mono ?_; rintro e w1 ⟨rfl, rfl⟩)
  all_goals
    go_ret2
    exact ⟨rfl, rfl⟩
theorem get_calls {w : World} {g bw bh size : Nat} {l : List Thing} (h : IsAr w g bw bh size l) (x i : Int) (h0 : 0 ≤ x) (h8 : x < 18446744073709551616) :
    Calls Try.prog 13 #[.pointer (some ⟨g, 0, none⟩), .int .u64 x, .int .i64 i] w fun e w' =>
      e = .returned (.tuple #[.int .u64 (getA l x i).1, .int .i64 (getA l x i).2]) ∧ w = w' := by
  unfold getA
  cases hp : place l x with
  | some o =>
    simp only []
    by_cases hi : 0 ≤ i ∧ i < o.2.length
    · rw [if_pos hi]
      have T := fun W (h : IsAr W g bw bh size l) => at_yes h x i h0 h8 o hp hi.1 hi.2
      have hl : look l (x / 8).toNat = some o := by
        unfold place at hp; split at hp
        · exact hp
        · cases hp
      have hlt := look_lt hl
      have cw : w.cell? ⟨bw, (x / 8).toNat + 1 + i.toNat, none⟩ = some (.int .u64 (o.2.getD i.toNat 0)) := by
        obtain ⟨z, _, hz⟩ := h.wd
        rw [blk_cell hz, nums_get, List.getElem?_append_left (by rw [flatW_len]; omega), look_field hl _ (by omega), List.getD_eq_getElem?_getD]
        have : i.toNat < o.2.length := by omega
        simp [List.getElem?_eq_getElem this]
      generalize o.2.getD i.toNat 0 = v at *
      generalize (x / 8).toNat + 1 + i.toNat = n at *
      clear hp hl hlt hi
      go_enter Try.func13, Try.ntmps13
      go_wp2_with (go_at_call 26; refine (T _ h).mono ?_; rintro e w1 ⟨rfl, rfl⟩)
      all_goals
        go_ret2
        exact ⟨rfl, rfl⟩
    · rw [if_neg hi]
      have T := fun W (h : IsAr W g bw bh size l) => at_out h x i h0 h8 o hp hi
      clear hp hi
      go_enter Try.func13, Try.ntmps13
      go_wp2_with (go_at_call 26; refine (T _ h).mono ?_; rintro e w1 ⟨rfl, rfl⟩)
      all_goals
        go_ret2
        exact ⟨rfl, rfl⟩
  | none =>
    simp only []
    have T := fun W (h : IsAr W g bw bh size l) => at_no h x i h0 h8 hp
    clear hp
    go_enter Try.func13, Try.ntmps13
    go_wp2_with (go_at_call 26; refine (T _ h).mono ?_; rintro e w1 ⟨rfl, rfl⟩)
    all_goals
      go_ret2
      exact ⟨rfl, rfl⟩
end Go.Proofs.Ytlaipmakgicnfaa.Ar

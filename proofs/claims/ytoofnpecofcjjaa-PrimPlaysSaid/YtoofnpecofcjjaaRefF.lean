/- The contract of Find of the arena of the reference; it states its conditions. -/
import Derived.Test.YtoofnpecofcjjaaRefA
namespace Go.Proofs.Ytoofnpecofcjjaa.Rf
open Go Go.RowKit Go.Proofs.Ytoofnpecofcjjaa.Heap Go.Proofs.Ytoofnpecofcjjaa.Word Go.Proofs.Ytoofnpecofcjjaa.Own Go.Proofs.Ytoofnpecofcjjaa.Ar
/-- what Find tells where it stopped -/
def FindP (es : List RE) (ok : Bool) (n : Int) (lo : Nat) (r : Int) : Prop :=
  (ok = true ∧ r = lo ∧ ∃ a, es[lo]? = some a ∧ (a.pos : Int) = n) ∨ (r = -1 ∧ ¬ (ok = true ∧ ∃ a, es[lo]? = some a ∧ (a.pos : Int) = n))
set_option maxHeartbeats 1000000 in
theorem find_run {w : World} {R : Nat → Prop} {g size : Nat} {es : List RE} (h : IsRf w R g size es) (x n : Int) (ok : Bool) (h0 : 0 ≤ x) (h8 : x < 18446744073709551616) (ht : toP 1 x = (n, ok)) :
    Calls Try.prog 41 #[.pointer (some ⟨g, 0, none⟩), .int .u64 x] w fun e w' => w = w' ∧ ∃ lo : Nat, lo ≤ es.length ∧
      (∀ (j : Nat) (a : RE), es[j]? = some a → j < lo → (a.pos : Int) < n) ∧ (∀ (j : Nat) (a : RE), es[j]? = some a → lo ≤ j → n ≤ (a.pos : Int)) ∧
      ∃ r : Int, e = .returned (.int .i64 r) ∧ FindP es ok n lo r := by
  obtain ⟨A, c, c0, c1, c2, hlc, hcm, hcell⟩ := rf_cell h
  have hle := h.le
  have hhi := h.hi
  have hlen : es.length ≤ 65536 := by
    have key : ∀ l : List RE, l.length ≤ tot (l.map RE.th) := by
      intro l
      induction l with
      | nil => exact Nat.zero_le _
      | cons a r ih => rw [List.map_cons, tot_cons, List.length_cons]; omega
    have := key es; omega
  have TO := fun w => rto_one 1 x w (.inl rfl) h0 h8
  rw [ht] at TO
  have hat := h.pos
  go_enter Try.func41, Try.ntmps41
  go_wp2_with fail
  refine (TO _).mono ?_
  rintro e w1 ⟨rfl, rfl⟩
  go_wp2_with fail
  go_loop [7, 8] (fun a b => ∃ lo hi : Nat, lo ≤ hi ∧ hi ≤ es.length ∧ a = .int .i64 lo ∧ b = .int .i64 hi ∧ (∀ (j : Nat) (a : RE), es[j]? = some a → j < lo → (a.pos : Int) < n) ∧
      (∀ (j : Nat) (a : RE), es[j]? = some a → hi ≤ j → n ≤ (a.pos : Int))) (fun a b => (intOf b).toNat - (intOf a).toNat)
  case atStart =>
    refine ⟨0, es.length, Nat.zero_le _, Nat.le_refl _, rfl, rfl, fun _ _ _ h => absurd h (Nat.not_lt_zero _), fun j a hj hl => ?_⟩
    have := (List.getElem?_eq_some_iff.1 hj).1
    omega
  case round =>
    obtain ⟨lo, hi, hlh, hhl, rfl, rfl, hA, hB⟩ := hrel
    by_cases hlt : lo < hi
    · obtain ⟨m, hm, m1, m2⟩ : ∃ m : Nat, ((lo : Int) + hi) / 2 = m ∧ lo ≤ m ∧ m < hi := ⟨(lo + hi) / 2, by omega, by omega, by omega⟩
      obtain ⟨a, ha⟩ : ∃ a, es[m]? = some a := ⟨_, List.getElem?_eq_getElem (by omega)⟩
      obtain ⟨tb, rfl, hcl⟩ := hcell (by omega)
      have q0 : w.cell? ⟨tb, m * 3, none⟩ = some (.int .i64 (a.pos : Int)) := hcl m a 0 _ ha rfl
      have HA := Lib.hid hA
      have HB := Lib.hid hB
      have HM := Lib.hid hat
      have m3 : (0 : Int) ≤ (m : Int) := Int.natCast_nonneg _
      have m4 : (m : Int) < (es.length : Int) := by omega
      clear hA hB hat hcl hcell TO ht
      by_cases hc : (a.pos : Int) < n
      · have t1 : decide ((a.pos : Int) < n) = true := by simpa using hc
        go_wp2_with fail
        go_round
        case rel =>
          refine ⟨m + 1, hi, by omega, hhl, by go_num, rfl, fun j b hj hl => ?_, HB.out⟩
          by_cases hjm : j = m
          · subst hjm; rw [ha] at hj; cases hj; exact hc
          · have := (okAt_lt HM.out j m b a hj ha (by omega)).1
            omega
        case measure => simp [intOf]; omega
      · have t1 : decide ((a.pos : Int) < n) = false := by simpa using hc
        go_wp2_with fail
        go_round
        case rel =>
          refine ⟨lo, m, by omega, by omega, rfl, by rw [hm], HA.out, fun j b hj hl => ?_⟩
          by_cases hjm : j = m
          · subst hjm; rw [ha] at hj; cases hj; omega
          · have := (okAt_lt HM.out m j a b ha hj (by omega)).1
            omega
        case measure => simp [intOf]; omega
    · obtain rfl : lo = hi := by omega
      have HA := Lib.hid hA
      have HB := Lib.hid hB
      clear hA hB hat TO ht
      cases ok with
      | false =>
        go_wp2_with fail
        go_ret
        exact ⟨rfl, lo, hhl, HA.out, HB.out, _, rfl, .inr ⟨rfl, by simp⟩⟩
      | true =>
        by_cases hle2 : lo < es.length
        · obtain ⟨a, ha⟩ : ∃ a, es[lo]? = some a := ⟨_, List.getElem?_eq_getElem hle2⟩
          obtain ⟨tb, rfl, hcl⟩ := hcell (by omega)
          have q0 : w.cell? ⟨tb, lo * 3, none⟩ = some (.int .i64 (a.pos : Int)) := hcl lo a 0 _ ha rfl
          have t1 : decide ((lo : Int) ≥ (es.length : Int)) = false := by simp; omega
          clear hcl hcell
          by_cases hc : (a.pos : Int) = n
          · have t2 : ((a.pos : Int) != n) = false := by simpa using hc
            have HC := Lib.hid hc
            have HX := Lib.hid ha
            clear hc ha
            go_wp2_with fail
            go_ret
            exact ⟨rfl, lo, hhl, HA.out, HB.out, _, rfl, .inl ⟨rfl, rfl, a, HX.out, HC.out⟩⟩
          · have t2 : ((a.pos : Int) != n) = true := by simpa using hc
            have HC := Lib.hid hc
            have HX := Lib.hid ha
            clear hc ha
            go_wp2_with fail
            go_ret
            exact ⟨rfl, lo, hhl, HA.out, HB.out, _, rfl, .inr ⟨rfl, by rintro ⟨_, b, hb, hbn⟩; rw [HX.out] at hb; cases hb; exact HC.out hbn⟩⟩
        · have t1 : decide ((lo : Int) ≥ (es.length : Int)) = true := by simp; omega
          clear hcell
          go_wp2_with fail
          go_ret
          exact ⟨rfl, lo, hhl, HA.out, HB.out, _, rfl, .inr ⟨rfl, by rintro ⟨_, b, hb, _⟩; have := (List.getElem?_eq_some_iff.1 hb).1; omega⟩⟩
end Go.Proofs.Ytoofnpecofcjjaa.Rf

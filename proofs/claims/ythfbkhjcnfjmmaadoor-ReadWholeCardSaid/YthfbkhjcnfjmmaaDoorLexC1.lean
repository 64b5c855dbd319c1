/- Contracts of what lex calls of the library; each states its conditions. -/
import Derived.Test.YthfbkhjcnfjmmaaDoorShelf
import Derived.WalkKit
import Derived.WalkMore
import Derived.Laws.RangeAny
import Derived.Laws.Runes
import Derived.BigQuiet
namespace Go.Proofs.YthfbkhjcnfjmmaaDoor.LexC
open Go Go.RowKit
/-- the signs that may stand in a name -/
abbrev signsB : ByteArray := ⟨#[33, 36, 37, 38, 42, 43, 45, 47, 58, 60, 61, 62, 63, 94, 95, 126]⟩
theorem firstIdx_eq (s : ByteArray) (c : UInt8) (h : ∀ b ∈ s.data.toList, b ≠ c) : Lib.indexByte s.data.toList c = -1 := by
  generalize s.data.toList = l at h
  induction l with
  | nil => rfl
  | cons x r ih =>
    have hx : x ≠ c := h x (by simp)
    have := ih (fun b hb => h b (by simp [hb]))
    simp [Lib.indexByte, hx, this]
theorem below_drewN' (B : Nat) (w : World) (n : Nat) : Below B w (w.drewN n) := ⟨rfl, rfl, rfl, Nat.le_refl _, fun _ _ => rfl⟩
set_option maxHeartbeats 2000000 in
set_option maxRecDepth 1000000 in
/-- strings.IndexRune in a row of signs below 128, at a rune that is no such sign -/
theorem indexRune_high (s : ByteArray) (r : Int) (w : World) (h0 : 128 ≤ r) (h1 : r ≤ 2147483647) (hs : ∀ b ∈ s.data.toList, b.toNat < 128) :
    Calls Tryd.prog 61 #[.string s, .int .i32 r] w fun e w' => e = .returned (.int .i64 (-1)) ∧ Below w.heap.size w w' := by
  have c1 : decide (0 ≤ r) = true := decide_eq_true (by omega)
  have c2 : decide (r < 128) = false := decide_eq_false (by omega)
  have hb : ∀ i (h : i < s.size), (s[i]'h).toNat < 128 := fun i h => hs _ (by rw [show s[i] = s.data.toList[i]'(by simpa using h) from by simp; rfl]; exact List.getElem_mem _)
  by_cases h3 : r = 65533
  · have c3 : (r == 65533) = true := by simpa using h3
    clear h3
    go_enter Tryd.func61, Tryd.ntmps61
    go_wp2
    go_loopw [] (fun w' => ∃ pos : Nat, w' = w.iter s pos) (fun w' => s.size - w'.iterPos w.heap.size)
    case atStart => exact ⟨0, rfl⟩
    case round =>
      obtain ⟨pos, rfl⟩ := hrel
      by_cases hp : pos < s.size
      · have hnx : ∀ ty, (Instr.next (.pointer (some ⟨w.heap.size, 0, none⟩)) true ty).run Tryd.prog (w.iter s pos) = _ := fun ty => run_next_ascii w s pos ty hp (hb pos hp)
        have hne : ((((s[pos]'hp).toNat : Nat) : Int) == 65533) = false := by have := hb pos hp; simp; omega
        go_wp2
        go_roundw
        case rel => exact ⟨pos + 1, rfl⟩
        case measure => simp; omega
      · have hnx : ∀ ty, (Instr.next (.pointer (some ⟨w.heap.size, 0, none⟩)) true ty).run Tryd.prog (w.iter s pos) = _ := fun ty => run_next_end w s pos ty hp
        go_wp2
        go_ret
        exact ⟨rfl, (Below.refl _ w).alloc (Nat.le_refl _) _⟩
  · have c3 : (r == 65533) = false := by simpa using h3
    clear h3
    have VR := fun w => Tryd.utf8_ValidRune r w
    cases hv : Lib.validRune r with
    | false =>
      rw [hv] at VR
      go_enter Tryd.func61, Tryd.ntmps61
      go_wp2_with (go_at_call 71; refine (VR _).mono ?_; rintro e w8 ⟨rfl, rfl⟩)
      go_ret
      exact ⟨rfl, Below.refl _ _⟩
    | true =>
      rw [hv] at VR
      have hu : Utf8.valid r = true := by
        have : Lib.validRune r = true := hv
        simp only [Lib.validRune] at this
        simp only [Utf8.valid]
        simp at this ⊢
        omega
      have hf := encode_facts r hu h0
      generalize hE : Utf8.encode r = E at hf
      obtain ⟨e2, e4, eL⟩ := hf
      have eL := eL (by omega)
      by_cases hsz : E.size - 1 < s.size
      · go_enter Tryd.func61, Tryd.ntmps61
        go_wp2_with (first | (go_at_call 71; refine (VR _).mono ?_; rintro e w8 ⟨rfl, rfl⟩) | (rw [hE]))
        have c5 : decide ((E.size : Int) - 1 < (s.size : Int)) = true := decide_eq_true (by omega)
        go_step3
        go_wp2_with (rw [hE])
        go_loopw [9] (fun v w' => v = .int .i64 ((E.size : Int) - 1) ∧ w' = w8) (fun _ _ => 0)
        case atStart => exact ⟨rfl, rfl⟩
        case round =>
          obtain ⟨rfl, rfl⟩ := hrel
          have p0 : (0 : Int) ≤ (E.size : Int) - 1 := by omega
          have p3 : (1 : Int) ≤ (E.size : Int) := by omega
          have p4 : (((s[E.size - 1]'hsz).toNat : Int) != ((E[E.size - 1]'(by omega)).toNat : Int)) = true := by have := hb _ hsz; simp; omega
          have IB : ∀ (i : Nat) (w : World), Calls Tryd.prog 37 #[.string (s.extract i s.size), .int .u8 ((E[E.size - 1]'(by omega)).toNat : Int)] w fun e w' => e = .returned (.int .i64 (-1)) ∧ w' = w := by
            intro i w
            have h := Tryd.strings_IndexByte (s.extract i s.size) ((E[E.size - 1]'(by omega)).toNat : Int) w
            rw [firstIdx_eq _ _ (fun b hb2 => by
              have := hs b (mem_extract hb2)
              intro h; subst h
              simp at this; omega)] at h
            exact h
          have p1 : (E.size : Int) - 1 < (s.size : Int) := by omega
          have p2 : (E.size : Int) - 1 < (E.size : Int) := by omega
          go_wp2
          go_step3
          go_wp2
          go_quiet (fail)
          go_wp2
          go_quiet ((go_at_call 37; exact (IB _ _).mono fun _ _ h => ⟨h.1, _, h.2⟩))
          go_wp2
          simp (config := {zetaDelta := true}) only [Exit.noGoto_ret, Exit.inBlock, Exit.then]
          go_ret
          exact ⟨rfl, below_drewN' _ _ _⟩
      · have c5 : decide ((E.size : Int) - 1 < (s.size : Int)) = false := decide_eq_false (by omega)
        go_enter Tryd.func61, Tryd.ntmps61
        go_wp2_with (first | (go_at_call 71; refine (VR _).mono ?_; rintro e w8 ⟨rfl, rfl⟩) | (rw [hE]))
        go_step3
        go_wp2_with (rw [hE])
        go_loopw [9] (fun v w' => v = .int .i64 ((E.size : Int) - 1) ∧ w' = w8) (fun _ _ => 0)
        case atStart => exact ⟨rfl, rfl⟩
        case round =>
          obtain ⟨rfl, rfl⟩ := hrel
          go_wp2
          repeat rw [Exit.noGoto_ret]
          go_ret
          exact ⟨rfl, Below.refl _ _⟩
set_option maxHeartbeats 2000000 in
/-- strings.ContainsRune at such a rune -/
theorem containsRune_high (s : ByteArray) (r : Int) (w : World) (h0 : 128 ≤ r) (h1 : r ≤ 2147483647) (hs : ∀ b ∈ s.data.toList, b.toNat < 128) :
    Calls Tryd.prog 54 #[.string s, .int .i32 r] w fun e w' => e = .returned (.bool false) ∧ Below w.heap.size w w' := by
  have IR := fun w => indexRune_high s r w h0 h1 hs
  go_enter Tryd.func54, Tryd.ntmps54
  go_wp2_with (go_at_call 61; refine (IR _).mono ?_; rintro e w8 ⟨rfl, h8⟩)
  go_ret
  exact ⟨rfl, h8⟩
/-- may a rune stand in a name? -/
def runeP (r : Int) : Bool := decide (97 ≤ r ∧ r ≤ 122) || decide (65 ≤ r ∧ r ≤ 90) || decide (48 ≤ r ∧ r ≤ 57) || (decide (r < 128) && decide (0 ≤ Lib.indexByte signsB.data.toList r.toNat.toUInt8))
theorem letter_walk (r : Int) (b : Bool) (R : World → World → Prop) (hR : ∀ w, R w w) (hC : ∀ w, Calls Tryd.prog 54 #[.string signsB, .int .i32 r] w fun e w' => e = .returned (.bool b) ∧ R w w') (w : World)
    (v : Bool) (hv : v = (decide (97 ≤ r ∧ r ≤ 122) || decide (65 ≤ r ∧ r ≤ 90) || decide (48 ≤ r ∧ r ≤ 57) || b)) :
    Calls Tryd.prog 49 #[.int .i32 r] w fun e w' => e = .returned (.bool v) ∧ R w w' := by
  have hk : (97 ≤ r ∧ r ≤ 122) ∨ 122 < r ∨ (90 < r ∧ r < 97) ∨ (65 ≤ r ∧ r ≤ 90) ∨ (57 < r ∧ r < 65) ∨ (48 ≤ r ∧ r ≤ 57) ∨ r < 48 := by omega
  rcases hk with h | h | h | h | h | h | h
  · have c1 : decide (97 ≤ r) = true := decide_eq_true (by omega)
    have c2 : decide (r ≤ 122) = true := decide_eq_true (by omega)
    have hx : v = true := by rw [hv]; simp [h]
    subst hx; clear hv h
    go_enter Tryd.func49, Tryd.ntmps49
    go_wp2
    go_ret
    exact ⟨rfl, hR _⟩
  · have c1 : decide (97 ≤ r) = true := decide_eq_true (by omega)
    have c2 : decide (r ≤ 122) = false := decide_eq_false (by omega)
    have c3 : decide (65 ≤ r) = true := decide_eq_true (by omega)
    have c4 : decide (r ≤ 90) = false := decide_eq_false (by omega)
    have c5 : decide (48 ≤ r) = true := decide_eq_true (by omega)
    have c6 : decide (r ≤ 57) = false := decide_eq_false (by omega)
    have hx : v = b := by rw [hv, decide_eq_false (by omega : ¬ (97 ≤ r ∧ r ≤ 122)), decide_eq_false (by omega : ¬ (65 ≤ r ∧ r ≤ 90)), decide_eq_false (by omega : ¬ (48 ≤ r ∧ r ≤ 57))]; simp
    subst hx; clear hv h
    go_enter Tryd.func49, Tryd.ntmps49
    go_wp2_with (go_at_call 54; refine (hC _).mono ?_; rintro e w8 ⟨rfl, h8⟩)
    go_ret
    exact ⟨rfl, h8⟩
  · have c1 : decide (97 ≤ r) = false := decide_eq_false (by omega)
    have c3 : decide (65 ≤ r) = true := decide_eq_true (by omega)
    have c4 : decide (r ≤ 90) = false := decide_eq_false (by omega)
    have c5 : decide (48 ≤ r) = true := decide_eq_true (by omega)
    have c6 : decide (r ≤ 57) = false := decide_eq_false (by omega)
    have hx : v = b := by rw [hv, decide_eq_false (by omega : ¬ (97 ≤ r ∧ r ≤ 122)), decide_eq_false (by omega : ¬ (65 ≤ r ∧ r ≤ 90)), decide_eq_false (by omega : ¬ (48 ≤ r ∧ r ≤ 57))]; simp
    subst hx; clear hv h
    go_enter Tryd.func49, Tryd.ntmps49
    go_wp2_with (go_at_call 54; refine (hC _).mono ?_; rintro e w8 ⟨rfl, h8⟩)
    go_ret
    exact ⟨rfl, h8⟩
  · have c1 : decide (97 ≤ r) = false := decide_eq_false (by omega)
    have c3 : decide (65 ≤ r) = true := decide_eq_true (by omega)
    have c4 : decide (r ≤ 90) = true := decide_eq_true (by omega)
    have hx : v = true := by rw [hv]; simp [h]
    subst hx; clear hv h
    go_enter Tryd.func49, Tryd.ntmps49
    go_wp2
    go_ret
    exact ⟨rfl, hR _⟩
  · have c1 : decide (97 ≤ r) = false := decide_eq_false (by omega)
    have c3 : decide (65 ≤ r) = false := decide_eq_false (by omega)
    have c5 : decide (48 ≤ r) = true := decide_eq_true (by omega)
    have c6 : decide (r ≤ 57) = false := decide_eq_false (by omega)
    have hx : v = b := by rw [hv, decide_eq_false (by omega : ¬ (97 ≤ r ∧ r ≤ 122)), decide_eq_false (by omega : ¬ (65 ≤ r ∧ r ≤ 90)), decide_eq_false (by omega : ¬ (48 ≤ r ∧ r ≤ 57))]; simp
    subst hx; clear hv h
    go_enter Tryd.func49, Tryd.ntmps49
    go_wp2_with (go_at_call 54; refine (hC _).mono ?_; rintro e w8 ⟨rfl, h8⟩)
    go_ret
    exact ⟨rfl, h8⟩
  · have c1 : decide (97 ≤ r) = false := decide_eq_false (by omega)
    have c3 : decide (65 ≤ r) = false := decide_eq_false (by omega)
    have c5 : decide (48 ≤ r) = true := decide_eq_true (by omega)
    have c6 : decide (r ≤ 57) = true := decide_eq_true (by omega)
    have hx : v = true := by rw [hv]; simp [h]
    subst hx; clear hv h
    go_enter Tryd.func49, Tryd.ntmps49
    go_wp2
    go_ret
    exact ⟨rfl, hR _⟩
  · have c1 : decide (97 ≤ r) = false := decide_eq_false (by omega)
    have c3 : decide (65 ≤ r) = false := decide_eq_false (by omega)
    have c5 : decide (48 ≤ r) = false := decide_eq_false (by omega)
    have hx : v = b := by rw [hv, decide_eq_false (by omega : ¬ (97 ≤ r ∧ r ≤ 122)), decide_eq_false (by omega : ¬ (65 ≤ r ∧ r ≤ 90)), decide_eq_false (by omega : ¬ (48 ≤ r ∧ r ≤ 57))]; simp
    subst hx; clear hv h
    go_enter Tryd.func49, Tryd.ntmps49
    go_wp2_with (go_at_call 54; refine (hC _).mono ?_; rintro e w8 ⟨rfl, h8⟩)
    go_ret
    exact ⟨rfl, h8⟩
/-- a byte below 128: the world stands -/
theorem letter_low (r : Int) (w : World) (h0 : 0 ≤ r) (h1 : r < 128) : Calls Tryd.prog 49 #[.int .i32 r] w fun e w' => e = .returned (.bool (runeP r)) ∧ w' = w :=
  letter_walk r _ (fun w w' => w' = w) (fun _ => rfl) (fun w => Tryd.strings_ContainsRune_ascii signsB r w h0 h1) w _ (by unfold runeP; rw [decide_eq_true h1]; simp)
/-- any rune from 128 on: no letter -/
theorem letter_high (r : Int) (w : World) (h0 : 128 ≤ r) (h1 : r ≤ 2147483647) : Calls Tryd.prog 49 #[.int .i32 r] w fun e w' => e = .returned (.bool false) ∧ Below w.heap.size w w' :=
  letter_walk r false (fun w w' => Below w.heap.size w w') (fun w => Below.refl _ w) (fun w => containsRune_high signsB r w h0 h1 (by decide)) w _ (by
    rw [decide_eq_false (by omega : ¬ (97 ≤ r ∧ r ≤ 122)), decide_eq_false (by omega : ¬ (65 ≤ r ∧ r ≤ 90)), decide_eq_false (by omega : ¬ (48 ≤ r ∧ r ≤ 57))]; rfl)
end Go.Proofs.YthfbkhjcnfjmmaaDoor.LexC

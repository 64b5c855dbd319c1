/- Contracts of what lex calls of the library; each states its conditions. -/
import Derived.Test.YtomhkemdafiphaaGreatDoorShelf
import Derived.WalkKit
import Derived.WalkMore
import Derived.Laws.RangeAny
import Derived.Laws.Runes
import Derived.BigQuiet
import Derived.Test.YtomhkemdafiphaaGreatDoorShowP
import Derived.Test.YtomhkemdafiphaaGreatDoorWWords
import Derived.Shelf.Strings.SlTrimAscii
import Derived.Lib.Hide
import Derived.Test.YtomhkemdafiphaaGreatDoorAppStep
import Derived.Stop.LaidErr
import Derived.MakeChecks
import Derived.LaidSub
namespace Go.Proofs.YtomhkemdafiphaaGreatDoor.LexC
open Go Go.RowKit
/-- the signs that may stand in a name -/
abbrev signsB : ByteArray := ⟨#[33, 36, 37, 38, 42, 43, 45, 47, 58, 60, 61, 62, 63, 94, 95, 126]⟩
theorem firstIdx_eq (s : ByteArray) (c : UInt8) (h : ∀ b ∈ s.data.toList, b ≠ c) : Lib.indexByte s.data.toList c = -1 := by
  generalize s.data.toList = l at h
  induction l with
  | nil => rfl
  | cons x r ih =>
    have hx : x ≠ c := h x (by simp)
    have := ih (fun b hb => h b (by simp [hb]))
    simp [Lib.indexByte, hx, this]
theorem below_drewN' (B : Nat) (w : World) (n : Nat) : Below B w (w.drewN n) := ⟨rfl, rfl, rfl, Nat.le_refl _, fun _ _ => rfl⟩
set_option maxHeartbeats 2000000 in
set_option maxRecDepth 1000000 in
/-- strings.IndexRune in a row of signs below 128, at a rune that is no such sign -/
theorem indexRune_high (s : ByteArray) (r : Int) (w : World) (h0 : 128 ≤ r) (h1 : r ≤ 2147483647) (hs : ∀ b ∈ s.data.toList, b.toNat < 128) :
    Calls Tryz.prog 115 #[.string s, .int .i32 r] w fun e w' => e = .returned (.int .i64 (-1)) ∧ Below w.heap.size w w' := by
  have c1 : decide (0 ≤ r) = true := decide_eq_true (by omega)
  have c2 : decide (r < 128) = false := decide_eq_false (by omega)
  have hb : ∀ i (h : i < s.size), (s[i]'h).toNat < 128 := fun i h => hs _ (by rw [show s[i] = s.data.toList[i]'(by simpa using h) from by simp; rfl]; exact List.getElem_mem _)
  by_cases h3 : r = 65533
  · have c3 : (r == 65533) = true := by simpa using h3
    clear h3
    go_enter Tryz.func115, Tryz.ntmps115
    go_wp2
    go_loopw [] (fun w' => ∃ pos : Nat, w' = w.iter s pos) (fun w' => s.size - w'.iterPos w.heap.size)
    case atStart => exact ⟨0, rfl⟩
    case round =>
      obtain ⟨pos, rfl⟩ := hrel
      by_cases hp : pos < s.size
      · have hnx : ∀ ty, (Instr.next (.pointer (some ⟨w.heap.size, 0, none⟩)) true ty).run Tryz.prog (w.iter s pos) = _ := fun ty => run_next_ascii w s pos ty hp (hb pos hp)
        have hne : ((((s[pos]'hp).toNat : Nat) : Int) == 65533) = false := by have := hb pos hp; simp; omega
        go_wp2
        go_roundw
        case rel => exact ⟨pos + 1, rfl⟩
        case measure => simp; omega
      · have hnx : ∀ ty, (Instr.next (.pointer (some ⟨w.heap.size, 0, none⟩)) true ty).run Tryz.prog (w.iter s pos) = _ := fun ty => run_next_end w s pos ty hp
        go_wp2
        go_ret
        exact ⟨rfl, (Below.refl _ w).alloc (Nat.le_refl _) _⟩
  · have c3 : (r == 65533) = false := by simpa using h3
    clear h3
    have VR := fun w => Tryz.utf8_ValidRune r w
    cases hv : Lib.validRune r with
    | false =>
      rw [hv] at VR
      go_enter Tryz.func115, Tryz.ntmps115
      go_wp2_with (go_at_call 127; refine (VR _).mono ?_; rintro e w8 ⟨rfl, rfl⟩)
      go_ret
      exact ⟨rfl, Below.refl _ _⟩
    | true =>
      rw [hv] at VR
      have hu : Utf8.valid r = true := by
        have : Lib.validRune r = true := hv
        simp only [Lib.validRune] at this
        simp only [Utf8.valid]
        simp at this ⊢
        omega
      have hf := encode_facts r hu h0
      generalize hE : Utf8.encode r = E at hf
      obtain ⟨e2, e4, eL⟩ := hf
      have eL := eL (by omega)
      by_cases hsz : E.size - 1 < s.size
      · go_enter Tryz.func115, Tryz.ntmps115
        go_wp2_with (first | (go_at_call 127; refine (VR _).mono ?_; rintro e w8 ⟨rfl, rfl⟩) | (rw [hE]))
        have c5 : decide ((E.size : Int) - 1 < (s.size : Int)) = true := decide_eq_true (by omega)
        go_step3
        go_wp2_with (rw [hE])
        go_loopw [9] (fun v w' => v = .int .i64 ((E.size : Int) - 1) ∧ w' = w8) (fun _ _ => 0)
        case atStart => exact ⟨rfl, rfl⟩
        case round =>
          obtain ⟨rfl, rfl⟩ := hrel
          have p0 : (0 : Int) ≤ (E.size : Int) - 1 := by omega
          have p3 : (1 : Int) ≤ (E.size : Int) := by omega
          have p4 : (((s[E.size - 1]'hsz).toNat : Int) != ((E[E.size - 1]'(by omega)).toNat : Int)) = true := by have := hb _ hsz; simp; omega
          have IB : ∀ (i : Nat) (w : World), Calls Tryz.prog 62 #[.string (s.extract i s.size), .int .u8 ((E[E.size - 1]'(by omega)).toNat : Int)] w fun e w' => e = .returned (.int .i64 (-1)) ∧ w' = w := by
            intro i w
            have h := Tryz.strings_IndexByte (s.extract i s.size) ((E[E.size - 1]'(by omega)).toNat : Int) w
            rw [firstIdx_eq _ _ (fun b hb2 => by
              have := hs b (mem_extract hb2)
              intro h; subst h
              simp at this; omega)] at h
            exact h
          have p1 : (E.size : Int) - 1 < (s.size : Int) := by omega
          have p2 : (E.size : Int) - 1 < (E.size : Int) := by omega
          go_wp2
          go_step3
          go_wp2
          go_quiet (fail)
          go_wp2
          go_quiet ((go_at_call 62; exact (IB _ _).mono fun _ _ h => ⟨h.1, _, h.2⟩))
          go_wp2
          simp (config := {zetaDelta := true}) only [Exit.noGoto_ret, Exit.inBlock, Exit.then]
          go_ret
          exact ⟨rfl, below_drewN' _ _ _⟩
      · have c5 : decide ((E.size : Int) - 1 < (s.size : Int)) = false := decide_eq_false (by omega)
        go_enter Tryz.func115, Tryz.ntmps115
        go_wp2_with (first | (go_at_call 127; refine (VR _).mono ?_; rintro e w8 ⟨rfl, rfl⟩) | (rw [hE]))
        go_step3
        go_wp2_with (rw [hE])
        go_loopw [9] (fun v w' => v = .int .i64 ((E.size : Int) - 1) ∧ w' = w8) (fun _ _ => 0)
        case atStart => exact ⟨rfl, rfl⟩
        case round =>
          obtain ⟨rfl, rfl⟩ := hrel
          go_wp2
          repeat rw [Exit.noGoto_ret]
          go_ret
          exact ⟨rfl, Below.refl _ _⟩
set_option maxHeartbeats 2000000 in
/-- strings.ContainsRune at such a rune -/
theorem containsRune_high (s : ByteArray) (r : Int) (w : World) (h0 : 128 ≤ r) (h1 : r ≤ 2147483647) (hs : ∀ b ∈ s.data.toList, b.toNat < 128) :
    Calls Tryz.prog 100 #[.string s, .int .i32 r] w fun e w' => e = .returned (.bool false) ∧ Below w.heap.size w w' := by
  have IR := fun w => indexRune_high s r w h0 h1 hs
  go_enter Tryz.func100, Tryz.ntmps100
  go_wp2_with (go_at_call 115; refine (IR _).mono ?_; rintro e w8 ⟨rfl, h8⟩)
  go_ret
  exact ⟨rfl, h8⟩
/-- may a rune stand in a name? -/
def runeP (r : Int) : Bool := decide (97 ≤ r ∧ r ≤ 122) || decide (65 ≤ r ∧ r ≤ 90) || decide (48 ≤ r ∧ r ≤ 57) || (decide (r < 128) && decide (0 ≤ Lib.indexByte signsB.data.toList r.toNat.toUInt8))
theorem letter_walk (r : Int) (b : Bool) (R : World → World → Prop) (hR : ∀ w, R w w) (hC : ∀ w, Calls Tryz.prog 100 #[.string signsB, .int .i32 r] w fun e w' => e = .returned (.bool b) ∧ R w w') (w : World)
    (v : Bool) (hv : v = (decide (97 ≤ r ∧ r ≤ 122) || decide (65 ≤ r ∧ r ≤ 90) || decide (48 ≤ r ∧ r ≤ 57) || b)) :
    Calls Tryz.prog 83 #[.int .i32 r] w fun e w' => e = .returned (.bool v) ∧ R w w' := by
  have hk : (97 ≤ r ∧ r ≤ 122) ∨ 122 < r ∨ (90 < r ∧ r < 97) ∨ (65 ≤ r ∧ r ≤ 90) ∨ (57 < r ∧ r < 65) ∨ (48 ≤ r ∧ r ≤ 57) ∨ r < 48 := by omega
  rcases hk with h | h | h | h | h | h | h
  · have c1 : decide (97 ≤ r) = true := decide_eq_true (by omega)
    have c2 : decide (r ≤ 122) = true := decide_eq_true (by omega)
    have hx : v = true := by rw [hv]; simp [h]
    subst hx; clear hv h
    go_enter Tryz.func83, Tryz.ntmps83
    go_wp2
    go_ret
    exact ⟨rfl, hR _⟩
  · have c1 : decide (97 ≤ r) = true := decide_eq_true (by omega)
    have c2 : decide (r ≤ 122) = false := decide_eq_false (by omega)
    have c3 : decide (65 ≤ r) = true := decide_eq_true (by omega)
    have c4 : decide (r ≤ 90) = false := decide_eq_false (by omega)
    have c5 : decide (48 ≤ r) = true := decide_eq_true (by omega)
    have c6 : decide (r ≤ 57) = false := decide_eq_false (by omega)
    have hx : v = b := by rw [hv, decide_eq_false (by omega : ¬ (97 ≤ r ∧ r ≤ 122)), decide_eq_false (by omega : ¬ (65 ≤ r ∧ r ≤ 90)), decide_eq_false (by omega : ¬ (48 ≤ r ∧ r ≤ 57))]; simp
    subst hx; clear hv h
    go_enter Tryz.func83, Tryz.ntmps83
    go_wp2_with (go_at_call 100; refine (hC _).mono ?_; rintro e w8 ⟨rfl, h8⟩)
    go_ret
    exact ⟨rfl, h8⟩
  · have c1 : decide (97 ≤ r) = false := decide_eq_false (by omega)
    have c3 : decide (65 ≤ r) = true := decide_eq_true (by omega)
    have c4 : decide (r ≤ 90) = false := decide_eq_false (by omega)
    have c5 : decide (48 ≤ r) = true := decide_eq_true (by omega)
    have c6 : decide (r ≤ 57) = false := decide_eq_false (by omega)
    have hx : v = b := by rw [hv, decide_eq_false (by omega : ¬ (97 ≤ r ∧ r ≤ 122)), decide_eq_false (by omega : ¬ (65 ≤ r ∧ r ≤ 90)), decide_eq_false (by omega : ¬ (48 ≤ r ∧ r ≤ 57))]; simp
    subst hx; clear hv h
    go_enter Tryz.func83, Tryz.ntmps83
    go_wp2_with (go_at_call 100; refine (hC _).mono ?_; rintro e w8 ⟨rfl, h8⟩)
    go_ret
    exact ⟨rfl, h8⟩
  · have c1 : decide (97 ≤ r) = false := decide_eq_false (by omega)
    have c3 : decide (65 ≤ r) = true := decide_eq_true (by omega)
    have c4 : decide (r ≤ 90) = true := decide_eq_true (by omega)
    have hx : v = true := by rw [hv]; simp [h]
    subst hx; clear hv h
    go_enter Tryz.func83, Tryz.ntmps83
    go_wp2
    go_ret
    exact ⟨rfl, hR _⟩
  · have c1 : decide (97 ≤ r) = false := decide_eq_false (by omega)
    have c3 : decide (65 ≤ r) = false := decide_eq_false (by omega)
    have c5 : decide (48 ≤ r) = true := decide_eq_true (by omega)
    have c6 : decide (r ≤ 57) = false := decide_eq_false (by omega)
    have hx : v = b := by rw [hv, decide_eq_false (by omega : ¬ (97 ≤ r ∧ r ≤ 122)), decide_eq_false (by omega : ¬ (65 ≤ r ∧ r ≤ 90)), decide_eq_false (by omega : ¬ (48 ≤ r ∧ r ≤ 57))]; simp
    subst hx; clear hv h
    go_enter Tryz.func83, Tryz.ntmps83
    go_wp2_with (go_at_call 100; refine (hC _).mono ?_; rintro e w8 ⟨rfl, h8⟩)
    go_ret
    exact ⟨rfl, h8⟩
  · have c1 : decide (97 ≤ r) = false := decide_eq_false (by omega)
    have c3 : decide (65 ≤ r) = false := decide_eq_false (by omega)
    have c5 : decide (48 ≤ r) = true := decide_eq_true (by omega)
    have c6 : decide (r ≤ 57) = true := decide_eq_true (by omega)
    have hx : v = true := by rw [hv]; simp [h]
    subst hx; clear hv h
    go_enter Tryz.func83, Tryz.ntmps83
    go_wp2
    go_ret
    exact ⟨rfl, hR _⟩
  · have c1 : decide (97 ≤ r) = false := decide_eq_false (by omega)
    have c3 : decide (65 ≤ r) = false := decide_eq_false (by omega)
    have c5 : decide (48 ≤ r) = false := decide_eq_false (by omega)
    have hx : v = b := by rw [hv, decide_eq_false (by omega : ¬ (97 ≤ r ∧ r ≤ 122)), decide_eq_false (by omega : ¬ (65 ≤ r ∧ r ≤ 90)), decide_eq_false (by omega : ¬ (48 ≤ r ∧ r ≤ 57))]; simp
    subst hx; clear hv h
    go_enter Tryz.func83, Tryz.ntmps83
    go_wp2_with (go_at_call 100; refine (hC _).mono ?_; rintro e w8 ⟨rfl, h8⟩)
    go_ret
    exact ⟨rfl, h8⟩
/-- a byte below 128: the world stands -/
theorem letter_low (r : Int) (w : World) (h0 : 0 ≤ r) (h1 : r < 128) : Calls Tryz.prog 83 #[.int .i32 r] w fun e w' => e = .returned (.bool (runeP r)) ∧ w' = w :=
  letter_walk r _ (fun w w' => w' = w) (fun _ => rfl) (fun w => Tryz.strings_ContainsRune_ascii signsB r w h0 h1) w _ (by unfold runeP; rw [decide_eq_true h1]; simp)
/-- any rune from 128 on: no letter -/
theorem letter_high (r : Int) (w : World) (h0 : 128 ≤ r) (h1 : r ≤ 2147483647) : Calls Tryz.prog 83 #[.int .i32 r] w fun e w' => e = .returned (.bool false) ∧ Below w.heap.size w w' :=
  letter_walk r false (fun w w' => Below w.heap.size w w') (fun w => Below.refl _ w) (fun w => containsRune_high signsB r w h0 h1 (by decide)) w _ (by
    rw [decide_eq_false (by omega : ¬ (97 ≤ r ∧ r ≤ 122)), decide_eq_false (by omega : ¬ (65 ≤ r ∧ r ≤ 90)), decide_eq_false (by omega : ¬ (48 ≤ r ∧ r ≤ 57))]; rfl)
end Go.Proofs.YtomhkemdafiphaaGreatDoor.LexC
/- Contracts of lex's inner functions; each states its conditions. -/
namespace Go.Proofs.YtomhkemdafiphaaGreatDoor.LexC
open Go Go.RowKit Go.Proofs.YtomhkemdafiphaaGreatDoor.LexP Go.Proofs.YtomhkemdafiphaaGreatDoorW.PrintWords
theorem isLetter_all : ∀ n < 256, isLetter (UInt8.ofNat n) = runeP (n : Int) := by decide +kernel
theorem isLetter_rune (c : UInt8) : isLetter c = runeP (c.toNat : Int) := by
  have := isLetter_all c.toNat c.toNat_lt
  rwa [UInt8.ofNat_toNat] at this
theorem isLetter_high (c : UInt8) (h : 128 ≤ c.toNat) : isLetter c = false := by
  have := @isLetter_all c.toNat c.toNat_lt
  rw [UInt8.ofNat_toNat] at this
  rw [this]
  have h2 := c.toNat_lt
  unfold runeP
  rw [decide_eq_false (by omega : ¬ (97 ≤ ((c.toNat : Nat) : Int) ∧ ((c.toNat : Nat) : Int) ≤ 122)), decide_eq_false (by omega : ¬ (65 ≤ ((c.toNat : Nat) : Int) ∧ ((c.toNat : Nat) : Int) ≤ 90)), decide_eq_false (by omega : ¬ (48 ≤ ((c.toNat : Nat) : Int) ∧ ((c.toNat : Nat) : Int) ≤ 57)), decide_eq_false (by omega : ¬ ((c.toNat : Nat) : Int) < 128)]
  rfl
theorem byte_at (s : ByteArray) (i : Nat) (h : i < s.size) : s.data.toList[i]? = some (s[i]'h) := Lib.data_getElem? s i h
theorem below_iter (B : Nat) (w : World) (s : ByteArray) (p : Nat) (h : B ≤ w.heap.size) : Below B w (w.iter s p) := (Below.refl _ w).alloc h _
set_option maxHeartbeats 1000000 in
/-- word: how many letters of a name a text begins with -/
theorem word_calls (s : ByteArray) (w : World) :
    Calls Tryz.prog 63 #[.string s] w fun e w' => e = .returned (.int .i64 ((word s.data.toList).length : Nat)) ∧ Below w.heap.size w w' := by
  go_enter Tryz.func63, Tryz.ntmps63
  go_wp2
  go_loopw [] (fun w' => ∃ pos : Nat, w' = w.iter s pos ∧ pos ≤ s.size ∧ ∀ i c, i < pos → s.data.toList[i]? = some c → isLetter c = true) (fun w' => s.size - w'.iterPos w.heap.size)
  case atStart => exact ⟨0, rfl, by omega, fun i c h => absurd h (by omega)⟩
  case round =>
    obtain ⟨pos, rfl, hle, hall⟩ := hrel
    by_cases hp : pos < s.size
    · have hat := byte_at s pos hp
      by_cases hlo : (s[pos]'hp).toNat < 128
      · have hnx : ∀ ty, (Instr.next (.pointer (some ⟨w.heap.size, 0, none⟩)) true ty).run Tryz.prog (w.iter s pos) = _ := fun ty => run_next_ascii w s pos ty hp hlo
        have LW := fun w => letter_low ((s[pos]'hp).toNat : Int) w (by omega) (by omega)
        rw [← isLetter_rune] at LW
        cases hl : isLetter (s[pos]'hp) with
        | true =>
          rw [hl] at LW
          go_wp2_with (go_at_call 83; refine (LW _).mono ?_; rintro e w8 ⟨rfl, rfl⟩)
          go_roundw
          case rel => exact ⟨pos + 1, rfl, by omega, fun i c hi hc => by
            by_cases h : i = pos
            · subst h; rw [hat] at hc; injection hc with hc; rw [← hc]; exact hl
            · exact hall i c (by omega) hc⟩
          case measure => simp; omega
        | false =>
          rw [hl] at LW
          go_wp2_with (go_at_call 83; refine (LW _).mono ?_; rintro e w8 ⟨rfl, rfl⟩)
          go_ret
          refine ⟨?_, below_iter _ _ _ _ (Nat.le_refl _)⟩
          rw [word, tw_stop isLetter s.data.toList pos (by rw [← Lib.size_eq]; omega) hall (fun c hc => by rw [hat] at hc; injection hc with hc; rw [← hc]; exact hl)]
          rfl
      · have hnx : ∀ ty, (Instr.next (.pointer (some ⟨w.heap.size, 0, none⟩)) true ty).run Tryz.prog (w.iter s pos) = _ := fun ty => run_next_any w s pos ty hp
        have hr := (decode_high s pos hp (by omega)).1
        have hr2 := decode_le s pos
        have LW := fun w => letter_high ((Utf8.decode s pos).1 : Int) w (by omega) (by omega)
        go_wp2_with (go_at_call 83; refine (LW _).mono ?_; rintro e w8 ⟨rfl, h8⟩)
        go_ret
        refine ⟨?_, (below_iter _ _ _ _ (Nat.le_refl _)).trans (h8.mono (by show w.heap.size ≤ (w.heap.push _).size; simp))⟩
        rw [word, tw_stop isLetter s.data.toList pos (by rw [← Lib.size_eq]; omega) hall (fun c hc => by rw [hat] at hc; injection hc with hc; rw [← hc]; exact isLetter_high _ (by omega))]
        rfl
    · have hnx : ∀ ty, (Instr.next (.pointer (some ⟨w.heap.size, 0, none⟩)) true ty).run Tryz.prog (w.iter s pos) = _ := fun ty => run_next_end w s pos ty hp
      go_wp2
      go_ret
      refine ⟨?_, below_iter _ _ _ _ (Nat.le_refl _)⟩
      have e : pos = s.size := by omega
      subst e
      rw [word, tw_stop isLetter s.data.toList s.size (by rw [← Lib.size_eq]; omega) hall (fun c hc => by rw [List.getElem?_eq_none (by rw [← Lib.size_eq]; omega)] at hc; cases hc)]
      rfl
theorem isDigit_iff (c : UInt8) : isDigit c = true ↔ 48 ≤ c.toNat ∧ c.toNat ≤ 57 := by
  simp only [isDigit, Bool.and_eq_true, decide_eq_true_eq, UInt8.le_iff_toNat_le]; simp
set_option maxHeartbeats 1000000 in
/-- number: is a word one? -/
theorem number_calls (s : ByteArray) (w : World) :
    Calls Tryz.prog 84 #[.string s] w fun e w' => e = .returned (.bool (numP s.data.toList)) ∧ Below w.heap.size w w' := by
  have TP := fun w => Tryz.strings_TrimPrefix s ⟨#[45]⟩ w
  unfold numP
  generalize hd : Lib.trimPrefix s.data.toList [45] = d at TP
  obtain ⟨x, hx⟩ : ∃ x : ByteArray, x = ⟨d.toArray⟩ := ⟨_, rfl⟩
  have hxd : x.data.toList = d := by rw [hx]
  rw [← hx] at TP
  clear hd hx
  subst hxd
  go_enter Tryz.func84, Tryz.ntmps84
  go_wp2_with (go_at_call 103; refine (TP _).mono ?_; rintro e w8 ⟨rfl, rfl⟩)
  go_loopw [] (fun w' => ∃ pos : Nat, w' = w8.iter x pos ∧ pos ≤ x.size ∧ ∀ i c, i < pos → x.data.toList[i]? = some c → isDigit c = true) (fun w' => x.size - w'.iterPos w8.heap.size)
  case atStart => exact ⟨0, rfl, by omega, fun i c h => absurd h (by omega)⟩
  case round =>
    obtain ⟨pos, rfl, hle, hall⟩ := hrel
    by_cases hp : pos < x.size
    · have hat := byte_at x pos hp
      have bad : isDigit (x[pos]'hp) = false → (x.data.toList.all isDigit && !x.data.toList.isEmpty) = false := fun h => by
        have : x.data.toList.all isDigit = false := by
          rw [List.all_eq_false]; exact ⟨x[pos]'hp, List.mem_of_getElem? hat, by simp [h]⟩
        rw [this]; rfl
      by_cases hlo : (x[pos]'hp).toNat < 128
      · have hnx : ∀ ty, (Instr.next (.pointer (some ⟨w8.heap.size, 0, none⟩)) true ty).run Tryz.prog (w8.iter x pos) = _ := fun ty => run_next_ascii w8 x pos ty hp hlo
        by_cases h1 : (x[pos]'hp).toNat < 48
        · have c1 : decide ((((x[pos]'hp).toNat : Nat) : Int) < 48) = true := decide_eq_true (by omega)
          have c1' : decide ((x[pos]'hp).toNat < 48) = true := decide_eq_true (by omega)
          go_wp2
          go_ret
          rw [bad (by rw [Bool.eq_false_iff, Ne, isDigit_iff]; omega)]
          exact ⟨rfl, below_iter _ _ _ _ (Nat.le_refl _)⟩
        · have c1 : decide ((((x[pos]'hp).toNat : Nat) : Int) < 48) = false := decide_eq_false (by omega)
          have c1' : decide ((x[pos]'hp).toNat < 48) = false := decide_eq_false (by omega)
          by_cases h2 : 57 < (x[pos]'hp).toNat
          · have c2 : decide (57 < (((x[pos]'hp).toNat : Nat) : Int)) = true := decide_eq_true (by omega)
            have c2' : decide (57 < (x[pos]'hp).toNat) = true := decide_eq_true (by omega)
            go_wp2
            go_ret
            rw [bad (by rw [Bool.eq_false_iff, Ne, isDigit_iff]; omega)]
            exact ⟨rfl, below_iter _ _ _ _ (Nat.le_refl _)⟩
          · have c2 : decide (57 < (((x[pos]'hp).toNat : Nat) : Int)) = false := decide_eq_false (by omega)
            have c2' : decide (57 < (x[pos]'hp).toNat) = false := decide_eq_false (by omega)
            go_wp2
            go_roundw
            case rel => exact ⟨pos + 1, rfl, by omega, fun i c hi hc => by
              by_cases h : i = pos
              · subst h; rw [hat] at hc; injection hc with hc; rw [← hc, isDigit_iff]; omega
              · exact hall i c (by omega) hc⟩
            case measure => simp; omega
      · have hnx : ∀ ty, (Instr.next (.pointer (some ⟨w8.heap.size, 0, none⟩)) true ty).run Tryz.prog (w8.iter x pos) = _ := fun ty => run_next_any w8 x pos ty hp
        have hr := (decode_high x pos hp (by omega)).1
        have hr2 := decode_le x pos
        have c1 : decide ((((Utf8.decode x pos).1 : Nat) : Int) < 48) = false := decide_eq_false (by omega)
        have c2 : decide (57 < (((Utf8.decode x pos).1 : Nat) : Int)) = true := decide_eq_true (by omega)
        have c1' : decide ((Utf8.decode x pos).1 < 48) = false := decide_eq_false (by omega)
        have c2' : decide (57 < (Utf8.decode x pos).1) = true := decide_eq_true (by omega)
        go_wp2
        go_ret
        rw [bad (by rw [Bool.eq_false_iff, Ne, isDigit_iff]; omega)]
        exact ⟨rfl, below_iter _ _ _ _ (Nat.le_refl _)⟩
    · have hnx : ∀ ty, (Instr.next (.pointer (some ⟨w8.heap.size, 0, none⟩)) true ty).run Tryz.prog (w8.iter x pos) = _ := fun ty => run_next_end w8 x pos ty hp
      go_wp2
      go_ret
      refine ⟨?_, below_iter _ _ _ _ (Nat.le_refl _)⟩
      have e : x.data.toList.all isDigit = true := by
        rw [List.all_eq_true]; intro c hc
        obtain ⟨i, hi, hic⟩ := List.getElem_of_mem hc
        exact hall i c (by rw [← Lib.size_eq] at hi; omega) (by rw [List.getElem?_eq_getElem hi, hic])
      rw [e, ← Lib.toList_data x]
      rfl
set_option maxHeartbeats 1000000 in
/-- stringslite.Cut at a newline -/
theorem slcut_calls (s : ByteArray) (w : World) (hs : s.size < 4294967296) :
    Calls Tryz.prog 81 #[.string s, .string ⟨#[10]⟩] w fun e w' => (∃ a b, e = .returned (.tuple #[.string a, .string ⟨(nlP s.data.toList).toArray⟩, .bool b])) ∧ Below w.heap.size w w' := by
  have IX := fun w => Tryz.stringslite_Index_one s 10 w
  unfold nlP
  rcases Lib.indexB_cases s ⟨#[10]⟩ with hix | ⟨i, hix, hroom⟩
  · obtain ⟨e1, e2, e3⟩ := Lib.cutB_miss s ⟨#[10]⟩ hix
    rw [show ([10] : List UInt8) = (⟨#[10]⟩ : ByteArray).data.toList from rfl, e2]
    have hx : Lib.indexByte s.data.toList 10 = -1 := by rw [← Lib.index_one]; exact hix
    rw [hx] at IX
    go_enter Tryz.func81, Tryz.ntmps81
    go_wp2_with (go_at_call 101; refine (IX _).mono ?_; rintro e w8 ⟨rfl, rfl⟩)
    go_ret3
    exact ⟨⟨_, _, rfl⟩, Below.refl _ _⟩
  · obtain ⟨e1, e2, e3⟩ := Lib.cutB_hit s ⟨#[10]⟩ i hix
    rw [show ([10] : List UInt8) = (⟨#[10]⟩ : ByteArray).data.toList from rfl, e2]
    have hx : Lib.indexByte s.data.toList 10 = i := by rw [← Lib.index_one]; exact hix
    rw [hx] at IX
    have hroom : i + 1 ≤ s.size := hroom
    have c1 : (0 : Int) ≤ ↑i := by omega
    have c2 : (↑i : Int) ≤ ↑s.size := by omega
    have c3 : (0 : Int) ≤ ↑i + 1 := by omega
    have c4 : (↑i + 1 : Int) ≤ ↑s.size := by omega
    have mixed : Tryz.prog.follows Departure.mixedOrders = true := by kernel_rfl
    go_enter Tryz.func81, Tryz.ntmps81
    go_wp2_with (go_at_call 101; refine (IX _).mono ?_; rintro e w8 ⟨rfl, rfl⟩)
    go_region_o
    go_wp2
    go_ret3
    exact ⟨⟨_, _, rfl⟩, (Below.refl _ _).drew⟩
theorem cut_calls (s : ByteArray) (w : World) (hs : s.size < 4294967296) :
    Calls Tryz.prog 61 #[.string s, .string ⟨#[10]⟩] w fun e w' => (∃ a b, e = .returned (.tuple #[.string a, .string ⟨(nlP s.data.toList).toArray⟩, .bool b])) ∧ Below w.heap.size w w' := by
  have CC := fun w => slcut_calls s w hs
  go_enter Tryz.func61, Tryz.ntmps61
  go_wp2_with (go_at_call 81; refine (CC _).mono ?_; rintro e w8 ⟨⟨a, b, rfl⟩, h8⟩)
  go_ret3
  exact ⟨⟨_, _, rfl⟩, h8⟩
theorem trim_calls (s : ByteArray) (w : World) :
    Calls Tryz.prog 59 #[.string s, .string ⟨#[32, 9, 10]⟩] w fun e w' => e = .returned (.string ⟨(trimB s.data.toList).toArray⟩) ∧ Below w.heap.size w w' :=
  Any.strings_TrimLeft_laid Tryz.lays161 (by kernel_rfl) s ⟨#[32, 9, 10]⟩ w (by decide) (fun j b h => by
    have : b ∈ [(32 : UInt8), 9, 10] := List.mem_of_getElem? h
    simp only [List.mem_cons, List.not_mem_nil, or_false] at this
    rcases this with rfl | rfl | rfl <;> decide)
theorem sz_mk (l : List UInt8) : (⟨l.toArray⟩ : ByteArray).size = l.length := by rw [Lib.size_eq]
theorem nlP_lt (c : UInt8) (r : List UInt8) : (nlP (c :: r)).length ≤ r.length := by
  unfold nlP Lib.cut; split
  · simp only [List.length_drop, List.length_cons, List.length_nil]; omega
  · simp
theorem hasPre (c : UInt8) (r : List UInt8) : Lib.hasPrefix (c :: r) [59] = (c == 59) := by
  unfold Lib.hasPrefix
  by_cases h : c == 59
  · have : c = 59 := by simpa using h
    subst this; simp
  · have : ¬ (59 : UInt8) = c := fun e => h (by simp [e])
    rw [Bool.eq_false_iff.mpr h]
    show ((59 : UInt8) == c && _) = false
    rw [show ((59 : UInt8) == c) = false from by simpa using this]; rfl
def strLen : Value → Nat | .string b => b.size | _ => 0
set_option maxHeartbeats 1000000 in
/-- passed: how many bytes are passed over -/
theorem passed_calls (s : ByteArray) (w : World) (hs : s.size < 4294967296) :
    Calls Tryz.prog 48 #[.string s] w fun e w' => e = .returned (.int .i64 ((s.data.toList.length - (pass false s.data.toList).length : Nat))) ∧ Below w.heap.size w w' := by
  have TL := fun x w => trim_calls x w
  have HP := fun (x : ByteArray) w => Tryz.strings_HasPrefix x ⟨#[59]⟩ w
  have CC := fun x w => cut_calls x w
  go_enter Tryz.func48, Tryz.ntmps48
  go_wp2_with (go_at_call 59; refine (TL _ _).mono ?_; rintro e w8 ⟨rfl, h8⟩)
  go_loopw [0] (fun v w' => ∃ cur : ByteArray, v = .string cur ∧ Hid (pass false s.data.toList = pass false cur.data.toList) ∧ (∀ c r, cur.data.toList = c :: r → isBlank c = false) ∧ cur.size ≤ s.size ∧ Below w.heap.size w w') (fun v _ => strLen v)
  case atStart =>
    refine ⟨_, rfl, Lib.hid (pass_trim _).symm, fun c r h => trimB_head _ c r h, ?_, h8⟩
    rw [sz_mk, Lib.size_eq]; exact trimB_le _
  case round =>
    obtain ⟨cur, rfl, hq, hnb, hle, hB⟩ := hrel
    have HP1 := fun w => HP cur w
    cases hp : Lib.hasPrefix cur.data.toList [59] with
    | true =>
      rw [hp] at HP1
      obtain ⟨r, hr⟩ : ∃ r, cur.data.toList = 59 :: r := by
        unfold Lib.hasPrefix at hp
        cases hc : cur.data.toList with
        | nil => rw [hc] at hp; simp at hp
        | cons c r => rw [hc] at hp; simp at hp; exact ⟨r, by rw [hp]⟩
      have hcl : cur.size = r.length + 1 := by rw [Lib.size_eq, hr]; rfl
      have CC1 := fun w => CC cur w (by omega)
      go_wp2_with (first | (go_at_call 60; refine (HP1 _).mono ?_; rintro e w2 ⟨rfl, rfl⟩) | (go_at_call 61; refine (CC1 _).mono ?_; rintro e w3 ⟨⟨a3, b3, rfl⟩, h3⟩) | (go_at_call 59; refine (TL _ _).mono ?_; rintro e w4 ⟨rfl, h4⟩))
      go_roundw
      case rel =>
        refine ⟨_, rfl, Lib.hid ?_, fun c r h => trimB_head _ c r h, ?_, (hB.trans (h3.mono hB.size)).trans (h4.mono (Nat.le_trans hB.size h3.size))⟩
        · rw [show pass false s.data.toList = pass false cur.data.toList from hq, hr]
          show pass false (59 :: r) = pass false (trimB (nlP (59 :: r)))
          rw [pass_trim, ← pass_nl, pass_t, if_neg (by decide), pass_f, if_neg (by decide), if_pos (by decide)]
        · rw [sz_mk]
          have := trimB_le (nlP (59 :: r))
          have := nlP_lt 59 r
          show (trimB (nlP (59 :: r))).length ≤ s.size
          omega
      case measure =>
        show (ByteArray.mk _).size < cur.size
        rw [sz_mk]
        have := trimB_le (nlP (59 :: r))
        have := nlP_lt 59 r
        show (trimB (nlP (59 :: r))).length < cur.size
        omega
    | false =>
      rw [hp] at HP1
      go_wp2_with (go_at_call 60; refine (HP1 _).mono ?_; rintro e w2 ⟨rfl, rfl⟩)
      go_ret
      refine ⟨?_, hB⟩
      have e : pass false s.data.toList = cur.data.toList := by
        rw [show pass false s.data.toList = pass false cur.data.toList from hq]
        cases hc : cur.data.toList with
        | nil => rfl
        | cons c r => 
          rw [hc] at hp
          exact pass_fix c r (hnb c r hc) (by rw [← hasPre c r]; exact hp)
      rw [e, ← Lib.size_eq, ← Lib.size_eq, Int.ofNat_sub hle]
      rfl
theorem numP_nil : numP [] = false := rfl
theorem numP_cons (c : UInt8) (r : List UInt8) : numP (c :: r) = if c == 45 then r.all isDigit && !r.isEmpty else (c :: r).all isDigit := by
  unfold numP; rw [trimPre]; split <;> simp
theorem parseMag_dig (r : List UInt8) (h : r.all isDigit = true) (hne : r ≠ []) (hl : r.length ≤ 13) : Lib.parseMag r = .ok (magP r) ∧ magP r < 10000000000000 := by
  have hp : 10 ^ r.length ≤ 10 ^ 13 := Nat.pow_le_pow_right (by omega) hl
  have := parse_dig r 0 h (by omega)
  unfold Lib.parseMag
  rw [if_neg hne]
  refine ⟨this.1, ?_⟩
  have h2 := this.2
  unfold magP
  omega
theorem atoi_num (l : List UInt8) (h : numP l = true) (hl : l.length ≤ 13) : Lib.atoiAll l = .ok (valP l) := by
  cases l with
  | nil => simp [numP_nil] at h
  | cons c r =>
    rw [numP_cons] at h
    simp only [List.length_cons] at hl
    by_cases hc : c == 45
    · rw [if_pos hc] at h
      have hc2 : c = 45 := by simpa using hc
      subst hc2
      simp only [Bool.and_eq_true] at h
      obtain ⟨h1, h2⟩ := parseMag_dig r h.1 (by intro e; rw [e] at h; simp at h) (by omega)
      unfold Lib.atoiAll valP
      simp only [show ((45 : UInt8).toNat = 43 ∨ (45 : UInt8).toNat = 45) from .inr rfl, if_true, h1]
      rw [if_neg (by simp), if_neg (by omega)]
      simp
    · rw [if_neg hc] at h
      have hd : isDigit c = true := by simp only [List.all_cons, Bool.and_eq_true] at h; exact h.1
      rw [isDigit_iff] at hd
      obtain ⟨h1, h2⟩ := parseMag_dig (c :: r) h (by simp) (by simp; omega)
      have hv : valP (c :: r) = magP (c :: r) := by
        unfold valP
        split
        · rename_i heq; injection heq with e1 _; rw [e1] at hc; simp at hc
        · rfl
      rw [hv]
      unfold Lib.atoiAll
      have e1 : ¬ (c.toNat = 43 ∨ c.toNat = 45) := by omega
      have e2 : ¬ c.toNat = 45 := by omega
      show (match Lib.parseMag (if c.toNat = 43 ∨ c.toNat = 45 then r else c :: r) with
        | .«syntax» => Lib.NumEnd.«syntax»
        | .range => .range
        | .ok u => if ¬ c.toNat = 45 ∧ 9223372036854775808 ≤ u then .range else if c.toNat = 45 ∧ 9223372036854775808 < u then .range else .ok (if c.toNat = 45 then -(u : Int) else u)) = _
      rw [if_neg e1, h1]
      show (if ¬ c.toNat = 45 ∧ 9223372036854775808 ≤ magP (c :: r) then Lib.NumEnd.range else if c.toNat = 45 ∧ 9223372036854775808 < magP (c :: r) then .range else .ok (if c.toNat = 45 then -(magP (c :: r) : Int) else magP (c :: r))) = _
      rw [if_neg (fun h => by omega), if_neg (fun h => e2 h.1), if_neg e2]
theorem atoi_nosyn (l : List UInt8) (h : numP l = true) : Lib.atoiAll l ≠ .«syntax» := by
  cases l with
  | nil => simp [numP_nil] at h
  | cons c r =>
    rw [numP_cons] at h
    have key : ∀ x : List UInt8, x.all isDigit = true → x ≠ [] → Lib.parseMag x ≠ .«syntax» := fun x h1 h2 => by
      unfold Lib.parseMag; rw [if_neg h2]; exact parse_nosyn x 0 h1
    have hk : Lib.parseMag (if c.toNat = 43 ∨ c.toNat = 45 then r else c :: r) ≠ .«syntax» := by
      by_cases hc : c == 45
      · rw [if_pos hc] at h
        have hc2 : c = 45 := by simpa using hc
        subst hc2
        simp only [Bool.and_eq_true] at h
        rw [if_pos (.inr rfl)]
        exact key r h.1 (by intro e; rw [e] at h; simp at h)
      · rw [if_neg hc] at h
        have hd : isDigit c = true := by simp only [List.all_cons, Bool.and_eq_true] at h; exact h.1
        rw [isDigit_iff] at hd
        rw [if_neg (by omega)]
        exact key _ h (by simp)
    unfold Lib.atoiAll
    simp only
    split
    · rename_i h2; exact absurd h2 hk
    · simp
    · split
      · simp
      · split <;> simp
/-- the variable that strconv reads holds something -/
def Vars (w : World) : Prop := ∃ ev, w.cell? ⟨5, 0, none⟩ = some ev ∧ (ev = .nilIface ∨ ∃ te pe, ev = .iface te pe)
theorem Vars.size {w : World} (h : Vars w) : 5 < w.heap.size := by
  obtain ⟨ev, h, _⟩ := h
  unfold World.cell? at h
  by_cases hk : 5 < w.heap.size
  · exact hk
  · have hn : w.heap[5]? = none := by simp; omega
    simp [hn] at h
theorem Vars.below {w w' : World} (h : Vars w) {B : Nat} (hB : Below B w w') (hb : w.heap.size ≤ B) : Vars w' := by
  obtain ⟨ev, h1, h2⟩ := h
  exact ⟨ev, by rw [hB.cell (show 5 < B from Nat.lt_of_lt_of_le (Vars.size ⟨ev, h1, h2⟩) hb)]; exact h1, h2⟩
/-- a token and how it is told -/
def tokV : Except Int (Int × Int × List UInt8) → Value
  | .error e => .tuple #[.agg #[.int .u8 0, .int .i64 0, .int .i64 0, .string ⟨#[]⟩], .int .i64 e]
  | .ok t => .tuple #[.agg #[.int .u8 t.1, .int .i64 0, .int .i64 t.2.1, .string ⟨t.2.2.toArray⟩], .int .i64 0]
theorem infoTok : (Tryz.prog.info? 85).map (fun i => (i.zero, i.size, i.bytes)) = some (some (.agg #[.int .u8 0, .int .i64 0, .int .i64 0, .string ⟨#[]⟩]), 4, 40) := by kernel_rfl
/-- the cells of a row that was made ahead of a call, behind it -/
theorem kept_cells {w w8 : World} {c : Array Value} {t : TypeId} (h : Below (w.alloc (.cells c t)).heap.size (w.alloc (.cells c t)) w8) :
    (∀ i, w8.cell? ⟨w.heap.size, i, none⟩ = c[i]?) ∧ (∀ i, w8.frozen? ⟨w.heap.size, i, none⟩ = false) ∧ w.heap.size < w8.heap.size ∧ Below w.heap.size w w8 ∧ w8.heap[w.heap.size]? = some (.cells c t (0, 0)) := by
  have hs : (w.alloc (.cells c t)).heap.size = w.heap.size + 1 := by show (w.heap.push _).size = _; simp
  have hb : w8.heap[w.heap.size]? = some (.cells c t (0, 0)) := by
    rw [h.block w.heap.size (by rw [hs]; omega)]
    show (w.heap.push _)[w.heap.size]? = _
    simp
  refine ⟨fun i => ?_, fun i => ?_, ?_, ?_, hb⟩
  · simp [World.cell?, hb]
  · simp [World.frozen?, hb]
  · have := h.size; rw [hs] at this; omega
  · exact ((Below.refl _ w).alloc (Nat.le_refl _) _).trans (h.mono (by rw [hs]; omega))
theorem tok_cells {w w8 : World} {a b c d : Value} {t : TypeId} (h : Below (w.alloc (.cells #[a, b, c, d] t)).heap.size (w.alloc (.cells #[a, b, c, d] t)) w8) :
    w8.cell? ⟨w.heap.size, 0, none⟩ = some a ∧ w8.cell? ⟨w.heap.size, 1, none⟩ = some b ∧ w8.cell? ⟨w.heap.size, 2, none⟩ = some c ∧ w8.cell? ⟨w.heap.size, 3, none⟩ = some d ∧ w8.frozen? ⟨w.heap.size, 0, none⟩ = false ∧ w8.frozen? ⟨w.heap.size, 1, none⟩ = false ∧ w8.frozen? ⟨w.heap.size, 2, none⟩ = false ∧ w8.frozen? ⟨w.heap.size, 3, none⟩ = false ∧ w.heap.size < w8.heap.size ∧ Below w.heap.size w w8 ∧ w8.heap[w.heap.size]? = some (.cells #[a, b, c, d] t (0, 0)) := by
  obtain ⟨h1, h2, h3, h4, h5⟩ := kept_cells h
  exact ⟨h1 0, h1 1, h1 2, h1 3, h2 0, h2 1, h2 2, h2 3, h3, h4, h5⟩
set_option maxHeartbeats 2000000 in
/-- token: that of a word -/
theorem token_calls (s : ByteArray) (w : World) (hs : s.size < 4294967296) (hV : Vars w) :
    Calls Tryz.prog 64 #[.string s] w fun e w' => e = .returned (tokV (tokP s.data.toList)) ∧ Below w.heap.size w w' := by
  have NC := fun w => number_calls s w
  have hlen : s.data.toList.length = s.size := (Lib.size_eq s).symm
  unfold tokP
  rw [hlen]
  cases hn : numP s.data.toList with
  | false =>
    rw [hn] at NC
    rw [if_neg (by simp)]
    clear hV hn hlen
    by_cases h32 : 32 < s.size
    · have c1 : decide (32 < (s.size : Int)) = true := decide_eq_true (by omega)
      have c1' : decide (32 < s.size) = true := decide_eq_true (by omega)
      rw [if_pos h32]
      go_enter Tryz.func64, Tryz.ntmps64
      go_wp2_with (go_at_call 84; refine (NC _).mono ?_; rintro e w8 ⟨rfl, h8⟩; obtain ⟨q0, q1, q2, q3, g0, g1, g2, g3, s8, b8, bk⟩ := tok_cells h8; clear h8; replace bk := Aside0.mk bk)
      refine bodyPost_ret (results_ct rfl _ _ w.heap.size 85 _ (0, 0) _ rfl (blk_set (blk_set (blk_set (blk_set bk.out 0 _) 1 _) 2 _) 3 _) Tryz.underlying85 rfl (by kernel_rfl)) rfl ?_
      exact ⟨rfl, (((b8.setCell (Nat.le_refl _) _).setCell (Nat.le_refl _) _).setCell (Nat.le_refl _) _).setCell (Nat.le_refl _) _⟩
    · have c1 : decide (32 < (s.size : Int)) = false := decide_eq_false (by omega)
      have c1' : decide (32 < s.size) = false := decide_eq_false (by omega)
      rw [if_neg h32]
      go_enter Tryz.func64, Tryz.ntmps64
      go_wp2_with (go_at_call 84; refine (NC _).mono ?_; rintro e w8 ⟨rfl, h8⟩; obtain ⟨q0, q1, q2, q3, g0, g1, g2, g3, s8, b8, bk⟩ := tok_cells h8; clear h8; replace bk := Aside0.mk bk)
      refine bodyPost_ret (results_ct rfl _ _ w.heap.size 85 _ (0, 0) _ rfl (blk_set (blk_set (blk_set (blk_set bk.out 0 _) 1 _) 2 _) 3 _) Tryz.underlying85 rfl (by kernel_rfl)) rfl ?_
      exact ⟨rfl, (((b8.setCell (Nat.le_refl _) _).setCell (Nat.le_refl _) _).setCell (Nat.le_refl _) _).setCell (Nat.le_refl _) _⟩
  | true =>
    rw [hn] at NC
    rw [if_pos rfl]
    by_cases h13 : 13 < s.size
    · have c1 : decide (13 < (s.size : Int)) = true := decide_eq_true (by omega)
      have c1' : decide (13 < s.size) = true := decide_eq_true (by omega)
      rw [if_pos (.inl h13)]
      have AT : ∀ w8, Below w.heap.size w w8 → Calls Tryz.prog 85 #[.string s] w8 fun e w9 => (∃ v n, e = .returned (.tuple #[.int .i64 v, n])) ∧ Below w8.heap.size w8 w9 := by
        intro w8 h8
        have hV8 := hV.below h8 (Nat.le_refl _)
        cases ha : Lib.atoiAll s.data.toList with
        | ok v =>
          refine (Tryz.strconv_Atoi_ok s (by omega) v ha w8).mono ?_
          rintro e w9 ⟨rfl, h | ⟨t, h⟩⟩
          · rw [h]; exact ⟨⟨_, _, rfl⟩, Below.refl _ _⟩
          · rw [h]; exact ⟨⟨_, _, rfl⟩, Lib.bytesWorld_below _ _ _⟩
        | «syntax» => exact absurd ha (atoi_nosyn _ hn)
        | range =>
          obtain ⟨ev, h1, h2⟩ := hV8
          refine (Tryz.strconv_Atoi_range s (by omega) ha ev w8 h1 h2).mono ?_
          rintro e w9 ⟨N, rfl, _, _, h⟩
          exact ⟨⟨_, _, rfl⟩, h⟩
      clear hV hn hlen
      go_enter Tryz.func64, Tryz.ntmps64
      go_wp2_with (first | (go_at_call 84; refine (NC _).mono ?_; rintro e w8 ⟨rfl, h8⟩; obtain ⟨q0, q1, q2, q3, g0, g1, g2, g3, s8, b8, bk⟩ := tok_cells h8; clear h8; replace bk := Aside0.mk bk) | (go_at_call 85; refine (AT w8 b8).mono ?_; rintro e w9 ⟨⟨v9, n9, rfl⟩, h9⟩; have s9 : w.heap.size < w9.heap.size := Nat.lt_of_lt_of_le s8 h9.size; replace b8 := b8.trans (h9.mono (by omega)); replace q0 := (h9.cell (p := ⟨w.heap.size, 0, none⟩) s8).trans q0; replace q1 := (h9.cell (p := ⟨w.heap.size, 1, none⟩) s8).trans q1; replace q2 := (h9.cell (p := ⟨w.heap.size, 2, none⟩) s8).trans q2; replace q3 := (h9.cell (p := ⟨w.heap.size, 3, none⟩) s8).trans q3; replace g0 := (h9.frozen (p := ⟨w.heap.size, 0, none⟩) s8).trans g0; replace g1 := (h9.frozen (p := ⟨w.heap.size, 1, none⟩) s8).trans g1; replace g2 := (h9.frozen (p := ⟨w.heap.size, 2, none⟩) s8).trans g2; replace g3 := (h9.frozen (p := ⟨w.heap.size, 3, none⟩) s8).trans g3; replace bk := Aside0.mk ((h9.block _ s8).trans bk.out); clear h9 s8; have s8 := s9; clear s9))
      refine bodyPost_ret (results_ct rfl _ _ w.heap.size 85 _ (0, 0) _ rfl (blk_set (blk_set (blk_set (blk_set bk.out 0 _) 1 _) 2 _) 3 _) Tryz.underlying85 rfl (by kernel_rfl)) rfl ?_
      exact ⟨rfl, (((b8.setCell (Nat.le_refl _) _).setCell (Nat.le_refl _) _).setCell (Nat.le_refl _) _).setCell (Nat.le_refl _) _⟩
    · have c1 : decide (13 < (s.size : Int)) = false := decide_eq_false (by omega)
      have c1' : decide (13 < s.size) = false := decide_eq_false (by omega)
      have ha := atoi_num _ hn (by omega)
      generalize valP s.data.toList = v at ha ⊢
      have AT : ∀ w8, Below w.heap.size w w8 → Calls Tryz.prog 85 #[.string s] w8 fun e w9 => e = .returned (.tuple #[.int .i64 v, .nilIface]) ∧ Below w8.heap.size w8 w9 := by
        intro w8 h8
        refine (Tryz.strconv_Atoi_ok s (by omega) v ha w8).mono ?_
        rintro e w9 ⟨rfl, h | ⟨t, h⟩⟩
        · rw [h]; exact ⟨rfl, Below.refl _ _⟩
        · rw [h]; exact ⟨rfl, Lib.bytesWorld_below _ _ _⟩
      clear hV hn hlen ha
      by_cases hv1 : v ≤ -1099511627776
      · have c2 : decide (v ≤ -1099511627776) = true := decide_eq_true hv1
        rw [if_pos (.inr (.inl hv1))]
        go_enter Tryz.func64, Tryz.ntmps64
        go_wp2_with (first | (go_at_call 84; refine (NC _).mono ?_; rintro e w8 ⟨rfl, h8⟩; obtain ⟨q0, q1, q2, q3, g0, g1, g2, g3, s8, b8, bk⟩ := tok_cells h8; clear h8; replace bk := Aside0.mk bk) | (go_at_call 85; refine (AT w8 b8).mono ?_; rintro e w9 ⟨rfl, h9⟩; have s9 : w.heap.size < w9.heap.size := Nat.lt_of_lt_of_le s8 h9.size; replace b8 := b8.trans (h9.mono (by omega)); replace q0 := (h9.cell (p := ⟨w.heap.size, 0, none⟩) s8).trans q0; replace q1 := (h9.cell (p := ⟨w.heap.size, 1, none⟩) s8).trans q1; replace q2 := (h9.cell (p := ⟨w.heap.size, 2, none⟩) s8).trans q2; replace q3 := (h9.cell (p := ⟨w.heap.size, 3, none⟩) s8).trans q3; replace g0 := (h9.frozen (p := ⟨w.heap.size, 0, none⟩) s8).trans g0; replace g1 := (h9.frozen (p := ⟨w.heap.size, 1, none⟩) s8).trans g1; replace g2 := (h9.frozen (p := ⟨w.heap.size, 2, none⟩) s8).trans g2; replace g3 := (h9.frozen (p := ⟨w.heap.size, 3, none⟩) s8).trans g3; replace bk := Aside0.mk ((h9.block _ s8).trans bk.out); clear h9 s8; have s8 := s9; clear s9))
        refine bodyPost_ret (results_ct rfl _ _ w.heap.size 85 _ (0, 0) _ rfl (blk_set (blk_set (blk_set (blk_set bk.out 0 _) 1 _) 2 _) 3 _) Tryz.underlying85 rfl (by kernel_rfl)) rfl ?_
        exact ⟨rfl, (((b8.setCell (Nat.le_refl _) _).setCell (Nat.le_refl _) _).setCell (Nat.le_refl _) _).setCell (Nat.le_refl _) _⟩
      · have c2 : decide (v ≤ -1099511627776) = false := decide_eq_false hv1
        by_cases hv2 : 1099511627776 ≤ v
        · have c3 : decide (1099511627776 ≤ v) = true := decide_eq_true hv2
          rw [if_pos (.inr (.inr hv2))]
          go_enter Tryz.func64, Tryz.ntmps64
          go_wp2_with (first | (go_at_call 84; refine (NC _).mono ?_; rintro e w8 ⟨rfl, h8⟩; obtain ⟨q0, q1, q2, q3, g0, g1, g2, g3, s8, b8, bk⟩ := tok_cells h8; clear h8; replace bk := Aside0.mk bk) | (go_at_call 85; refine (AT w8 b8).mono ?_; rintro e w9 ⟨rfl, h9⟩; have s9 : w.heap.size < w9.heap.size := Nat.lt_of_lt_of_le s8 h9.size; replace b8 := b8.trans (h9.mono (by omega)); replace q0 := (h9.cell (p := ⟨w.heap.size, 0, none⟩) s8).trans q0; replace q1 := (h9.cell (p := ⟨w.heap.size, 1, none⟩) s8).trans q1; replace q2 := (h9.cell (p := ⟨w.heap.size, 2, none⟩) s8).trans q2; replace q3 := (h9.cell (p := ⟨w.heap.size, 3, none⟩) s8).trans q3; replace g0 := (h9.frozen (p := ⟨w.heap.size, 0, none⟩) s8).trans g0; replace g1 := (h9.frozen (p := ⟨w.heap.size, 1, none⟩) s8).trans g1; replace g2 := (h9.frozen (p := ⟨w.heap.size, 2, none⟩) s8).trans g2; replace g3 := (h9.frozen (p := ⟨w.heap.size, 3, none⟩) s8).trans g3; replace bk := Aside0.mk ((h9.block _ s8).trans bk.out); clear h9 s8; have s8 := s9; clear s9))
          refine bodyPost_ret (results_ct rfl _ _ w.heap.size 85 _ (0, 0) _ rfl (blk_set (blk_set (blk_set (blk_set bk.out 0 _) 1 _) 2 _) 3 _) Tryz.underlying85 rfl (by kernel_rfl)) rfl ?_
          exact ⟨rfl, (((b8.setCell (Nat.le_refl _) _).setCell (Nat.le_refl _) _).setCell (Nat.le_refl _) _).setCell (Nat.le_refl _) _⟩
        · have c3 : decide (1099511627776 ≤ v) = false := decide_eq_false hv2
          rw [if_neg (fun h => by omega)]
          go_enter Tryz.func64, Tryz.ntmps64
          go_wp2_with (first | (go_at_call 84; refine (NC _).mono ?_; rintro e w8 ⟨rfl, h8⟩; obtain ⟨q0, q1, q2, q3, g0, g1, g2, g3, s8, b8, bk⟩ := tok_cells h8; clear h8; replace bk := Aside0.mk bk) | (go_at_call 85; refine (AT w8 b8).mono ?_; rintro e w9 ⟨rfl, h9⟩; have s9 : w.heap.size < w9.heap.size := Nat.lt_of_lt_of_le s8 h9.size; replace b8 := b8.trans (h9.mono (by omega)); replace q0 := (h9.cell (p := ⟨w.heap.size, 0, none⟩) s8).trans q0; replace q1 := (h9.cell (p := ⟨w.heap.size, 1, none⟩) s8).trans q1; replace q2 := (h9.cell (p := ⟨w.heap.size, 2, none⟩) s8).trans q2; replace q3 := (h9.cell (p := ⟨w.heap.size, 3, none⟩) s8).trans q3; replace g0 := (h9.frozen (p := ⟨w.heap.size, 0, none⟩) s8).trans g0; replace g1 := (h9.frozen (p := ⟨w.heap.size, 1, none⟩) s8).trans g1; replace g2 := (h9.frozen (p := ⟨w.heap.size, 2, none⟩) s8).trans g2; replace g3 := (h9.frozen (p := ⟨w.heap.size, 3, none⟩) s8).trans g3; replace bk := Aside0.mk ((h9.block _ s8).trans bk.out); clear h9 s8; have s8 := s9; clear s9))
          refine bodyPost_ret (results_ct rfl _ _ w.heap.size 85 _ (0, 0) _ rfl (blk_set (blk_set (blk_set (blk_set bk.out 0 _) 1 _) 2 _) 3 _) Tryz.underlying85 rfl (by kernel_rfl)) rfl ?_
          exact ⟨rfl, (((b8.setCell (Nat.le_refl _) _).setCell (Nat.le_refl _) _).setCell (Nat.le_refl _) _).setCell (Nat.le_refl _) _⟩
end Go.Proofs.YtomhkemdafiphaaGreatDoor.LexC
/- The contract of first; each states its conditions. -/
namespace Go.Proofs.YtomhkemdafiphaaGreatDoor.LexC
open Go Go.RowKit Go.Proofs.YtomhkemdafiphaaGreatDoor.LexP Go.Proofs.YtomhkemdafiphaaGreatDoorW.PrintWords
theorem ext_list (s : ByteArray) (a b : Nat) : (s.extract a b).data.toList = (s.data.toList.drop a).take (b - a) := by
  rw [ByteArray.data_extract, Array.toList_extract]
/-- a text's first token as it is told -/
def firstV (m : Int) : Except Int ((Int × Int × List UInt8) × Nat) → Value
  | .error e => .tuple #[.agg #[.int .u8 0, .int .i64 0, .int .i64 0, .string ⟨#[]⟩], .int .i64 m, .int .i64 e]
  | .ok (t, n) => .tuple #[.agg #[.int .u8 t.1, .int .i64 0, .int .i64 t.2.1, .string ⟨t.2.2.toArray⟩], .int .i64 n, .int .i64 0]
theorem ib_marks (c : UInt8) : Lib.indexByte (⟨#[40, 41, 39]⟩ : ByteArray).data.toList c = if c == 40 then 0 else if c == 41 then 1 else if c == 39 then 2 else -1 := by
  show (if (40 : UInt8) == c then (0 : Int) else if (if (41 : UInt8) == c then (0 : Int) else if (if (39 : UInt8) == c then (0 : Int) else if (-1 : Int) == -1 then -1 else -1 + 1) == -1 then -1 else (if (39 : UInt8) == c then (0 : Int) else if (-1 : Int) == -1 then -1 else -1 + 1) + 1) == -1 then -1 else (if (41 : UInt8) == c then (0 : Int) else if (if (39 : UInt8) == c then (0 : Int) else if (-1 : Int) == -1 then -1 else -1 + 1) == -1 then -1 else (if (39 : UInt8) == c then (0 : Int) else if (-1 : Int) == -1 then -1 else -1 + 1) + 1) + 1) = _
  have e : ∀ a b : UInt8, (a == b) = (b == a) := fun a b => BEq.comm
  rw [e 40 c, e 41 c, e 39 c]
  cases c == 40 <;> cases c == 41 <;> cases c == 39 <;> rfl
theorem blk_new (w : World) (cs : Array Value) (t : TypeId) : (w.alloc (.cells cs t)).heap[w.heap.size]? = some (.cells cs t (0, 0)) := by
  show (w.heap.push _)[w.heap.size]? = _
  simp
/-- how many bytes are told beside what is wrong -/
def firstM (c : UInt8) (r : List UInt8) : Int := if c == 35 then 0 else ((word (c :: r)).length : Nat)
theorem firstP_cons (c : UInt8) (r : List UInt8) : firstP (c :: r) = if c == 40 then .ok ((1, 0, []), 1) else if c == 41 then .ok ((2, 0, []), 1) else if c == 39 then .ok ((3, 0, []), 1)
    else if c == 35 then (if word r = [116] then .ok ((5, 1, []), 2) else if word r = [102] then .ok ((5, 0, []), 2) else .error 50)
    else if word (c :: r) = [] then .error 50 else match tokP (word (c :: r)) with
      | .error e => .error e
      | .ok t => .ok (t, (word (c :: r)).length) := rfl
set_option maxHeartbeats 4000000 in
set_option maxRecDepth 100000 in
/-- first: the token that a text begins with, and how many bytes it has -/
theorem first_calls (s : ByteArray) (c : UInt8) (r : List UInt8) (w : World) (hl : s.data.toList = c :: r) (hs : s.size < 4294967296) (hV : Vars w) :
    Calls Tryz.prog 49 #[.string s] w fun e w' => e = .returned (firstV (firstM c r) (firstP (c :: r))) ∧ Below w.heap.size w w' := by
  have h0 : 0 < s.size := by rw [Lib.size_eq, hl]; simp
  have h0z : (1 : Int) ≤ (s.size : Int) := by omega
  have hc0 : s[0]'h0 = c := by
    have := Lib.data_getElem? s 0 h0
    rw [hl] at this; simpa using this.symm
  have IB := fun w => Tryz.strings_IndexByte ⟨#[40, 41, 39]⟩ (((s[0]'h0).toNat : Nat) : Int) w
  rw [show ((((s[0]'h0).toNat : Nat) : Int).toNat).toUInt8 = c from by rw [hc0]; simp [Nat.toUInt8], ib_marks] at IB
  rw [firstP_cons]
  by_cases m1 : c == 40
  · rw [if_pos m1] at IB ⊢
    clear hV hl hc0
    go_enter Tryz.func49, Tryz.ntmps49
    go_wp2_with (go_at_call 62; refine (IB _).mono ?_; rintro e w8 ⟨rfl, rfl⟩)
    refine bodyPost_ret (results_ctt rfl _ _ w.heap.size 85 _ (0, 0) _ rfl (blk_new w _ _) Tryz.underlying85 rfl (by kernel_rfl)) rfl ?_
    exact ⟨rfl, (Below.refl _ w).alloc (Nat.le_refl _) _⟩
  rw [if_neg m1] at IB ⊢
  by_cases m2 : c == 41
  · rw [if_pos m2] at IB ⊢
    clear hV hl hc0
    go_enter Tryz.func49, Tryz.ntmps49
    go_wp2_with (go_at_call 62; refine (IB _).mono ?_; rintro e w8 ⟨rfl, rfl⟩)
    refine bodyPost_ret (results_ctt rfl _ _ w.heap.size 85 _ (0, 0) _ rfl (blk_new w _ _) Tryz.underlying85 rfl (by kernel_rfl)) rfl ?_
    exact ⟨rfl, (Below.refl _ w).alloc (Nat.le_refl _) _⟩
  rw [if_neg m2] at IB ⊢
  by_cases m3 : c == 39
  · rw [if_pos m3] at IB ⊢
    clear hV hl hc0
    go_enter Tryz.func49, Tryz.ntmps49
    go_wp2_with (go_at_call 62; refine (IB _).mono ?_; rintro e w8 ⟨rfl, rfl⟩)
    refine bodyPost_ret (results_ctt rfl _ _ w.heap.size 85 _ (0, 0) _ rfl (blk_new w _ _) Tryz.underlying85 rfl (by kernel_rfl)) rfl ?_
    exact ⟨rfl, (Below.refl _ w).alloc (Nat.le_refl _) _⟩
  rw [if_neg m3] at IB ⊢
  have WC := fun x w => word_calls x w
  by_cases m4 : c == 35
  · rw [if_pos m4, show firstM c r = 0 from if_pos m4]
    have e35 : ((((s[0]'h0).toNat : Nat) : Int) == 35) = true := by rw [hc0, show c = 35 from by simpa using m4]; rfl
    have hxl : (s.extract 1 s.size).data.toList = r := by rw [ext_list, hl]; simp [Lib.size_eq, hl]
    have WC1 := fun w => WC (s.extract 1 s.size) w
    rw [hxl] at WC1
    have hn : (word r).length ≤ r.length := (List.takeWhile_prefix _).length_le
    have hz : s.size = r.length + 1 := by rw [Lib.size_eq, hl]; rfl
    obtain ⟨n, hnn⟩ : ∃ n : Nat, n = (word r).length := ⟨_, rfl⟩
    have hyl : (s.extract 1 (1 + n)).data.toList = word r := by rw [ext_list, hl, hnn]; simp [word, tw_take]
    rw [← hnn] at WC1
    have b1 : (1 : Int) + (n : Int) ≤ (s.size : Int) := by omega
    have b2 : (1 : Int) ≤ 1 + (n : Int) := by omega
    have hnb : (n : Int) < 4294967296 := by omega
    have yl : (s.extract 1 (1 + n)).toList = word r := by rw [Lib.toList_data, hyl]
    clear hV hl hc0 WC hn hz hnn hyl hxl
    by_cases k1 : word r = [116]
    · have e1 : ((s.extract 1 (1 + n)).toList == [116]) = true := by rw [yl, k1]; rfl
      rw [if_pos k1]
      go_enter Tryz.func49, Tryz.ntmps49
      go_wp2_with (first | (go_at_call 62; refine (IB _).mono ?_; rintro e w8 ⟨rfl, rfl⟩) | (go_at_call 63; refine (WC1 _).mono ?_; rintro e w8 ⟨rfl, h8⟩; obtain ⟨q0, q1, q2, q3, g0, g1, g2, g3, s8, b8, bk⟩ := tok_cells h8; clear h8; replace bk := Aside0.mk bk))
      refine bodyPost_ret (results_ctt rfl _ _ w.heap.size 85 _ (0, 0) _ rfl (blk_set (blk_set (blk_set (blk_set bk.out 0 _) 1 _) 2 _) 3 _) Tryz.underlying85 rfl (by kernel_rfl)) rfl ?_
      exact ⟨rfl, (((b8.setCell (Nat.le_refl _) _).setCell (Nat.le_refl _) _).setCell (Nat.le_refl _) _).setCell (Nat.le_refl _) _⟩
    · have e1 : ((s.extract 1 (1 + n)).toList == [116]) = false := by rw [yl]; simpa using k1
      rw [if_neg k1]
      by_cases k2 : word r = [102]
      · have e2 : ((s.extract 1 (1 + n)).toList == [102]) = true := by rw [yl, k2]; rfl
        rw [if_pos k2]
        go_enter Tryz.func49, Tryz.ntmps49
        go_wp2_with (first | (go_at_call 62; refine (IB _).mono ?_; rintro e w8 ⟨rfl, rfl⟩) | (go_at_call 63; refine (WC1 _).mono ?_; rintro e w8 ⟨rfl, h8⟩; obtain ⟨q0, q1, q2, q3, g0, g1, g2, g3, s8, b8, bk⟩ := tok_cells h8; clear h8; replace bk := Aside0.mk bk))
        refine bodyPost_ret (results_ctt rfl _ _ w.heap.size 85 _ (0, 0) _ rfl (blk_set (blk_set (blk_set (blk_set bk.out 0 _) 1 _) 2 _) 3 _) Tryz.underlying85 rfl (by kernel_rfl)) rfl ?_
        exact ⟨rfl, (((b8.setCell (Nat.le_refl _) _).setCell (Nat.le_refl _) _).setCell (Nat.le_refl _) _).setCell (Nat.le_refl _) _⟩
      · have e2 : ((s.extract 1 (1 + n)).toList == [102]) = false := by rw [yl]; simpa using k2
        rw [if_neg k2]
        clear k1 k2 yl
        go_enter Tryz.func49, Tryz.ntmps49
        go_wp2_with (first | (go_at_call 62; refine (IB _).mono ?_; rintro e w8 ⟨rfl, rfl⟩) | (go_at_call 63; refine (WC1 _).mono ?_; rintro e w8 ⟨rfl, h8⟩; obtain ⟨q0, q1, q2, q3, g0, g1, g2, g3, s8, b8, bk⟩ := tok_cells h8; clear h8; replace bk := Aside0.mk bk))
        refine bodyPost_ret (results_ctt rfl _ _ w.heap.size 85 _ (0, 0) _ rfl (blk_set (blk_set (blk_set (blk_set bk.out 0 _) 1 _) 2 _) 3 _) Tryz.underlying85 rfl (by kernel_rfl)) rfl ?_
        exact ⟨rfl, (((b8.setCell (Nat.le_refl _) _).setCell (Nat.le_refl _) _).setCell (Nat.le_refl _) _).setCell (Nat.le_refl _) _⟩
  rw [if_neg m4, show firstM c r = ((word (c :: r)).length : Nat) from if_neg m4]
  have e35 : ((((s[0]'h0).toNat : Nat) : Int) == 35) = false := by
    rw [hc0]
    have : ¬ c.toNat = 35 := fun h => m4 (by rw [show c = 35 from UInt8.toNat_inj.1 h]; rfl)
    simpa using fun h => this (by omega)
  have WC1 := fun w => WC s w
  rw [hl] at WC1
  clear WC
  by_cases k0 : word (c :: r) = []
  · rw [if_pos k0, k0]
    rw [k0] at WC1
    clear hV hl hc0
    go_enter Tryz.func49, Tryz.ntmps49
    go_wp2_with (first | (go_at_call 62; refine (IB _).mono ?_; rintro e w8 ⟨rfl, rfl⟩) | (go_at_call 63; refine (WC1 _).mono ?_; rintro e w8 ⟨rfl, h8⟩; obtain ⟨q0, q1, q2, q3, g0, g1, g2, g3, s8, b8, bk⟩ := tok_cells h8; clear h8; replace bk := Aside0.mk bk))
    refine bodyPost_ret (results_ctt rfl _ _ w.heap.size 85 _ (0, 0) _ rfl (blk_set (blk_set (blk_set (blk_set bk.out 0 _) 1 _) 2 _) 3 _) Tryz.underlying85 rfl (by kernel_rfl)) rfl ?_
    exact ⟨rfl, (((b8.setCell (Nat.le_refl _) _).setCell (Nat.le_refl _) _).setCell (Nat.le_refl _) _).setCell (Nat.le_refl _) _⟩
  · rw [if_neg k0]
    obtain ⟨n, hnn⟩ : ∃ n : Nat, n = (word (c :: r)).length := ⟨_, rfl⟩
    have hn : (word (c :: r)).length ≤ (c :: r).length := (List.takeWhile_prefix _).length_le
    have hz : s.size = (c :: r).length := by rw [Lib.size_eq, hl]
    have hxl : (s.extract 0 n).data.toList = word (c :: r) := by rw [ext_list, hl, hnn]; simp [word, tw_take]
    have hn0 : n ≠ 0 := fun h => k0 (List.length_eq_zero_iff.1 (by rw [← hnn]; exact h))
    have TC := fun w hV => token_calls (s.extract 0 n) w (by rw [Lib.size_eq, hxl]; omega) hV
    rw [hxl] at TC
    rw [← hnn] at WC1 ⊢
    have b1 : (n : Int) ≤ (s.size : Int) := by omega
    have b2 : (0 : Int) ≤ (n : Int) := by omega
    have b3 : ((n : Int) == 0) = false := by simpa using hn0
    clear hl hc0 hnn hn hz hxl
    cases ht : tokP (word (c :: r)) with
    | error e9 =>
      rw [ht] at TC
      unfold tokV at TC
      simp only at TC
      go_enter Tryz.func49, Tryz.ntmps49
      go_wp2_with (first | (go_at_call 62; refine (IB _).mono ?_; rintro e w8 ⟨rfl, rfl⟩) | (go_at_call 63; refine (WC1 _).mono ?_; rintro e w8 ⟨rfl, h8⟩; obtain ⟨q0, q1, q2, q3, g0, g1, g2, g3, s8, b8, bk⟩ := tok_cells h8; clear h8; replace bk := Aside0.mk bk; have V8 := Aside0.mk (hV.below b8 (Nat.le_refl _))) | (go_at_call 64; refine (TC w8 V8.out).mono ?_; rintro e w9 ⟨rfl, h9⟩; have s9 : w.heap.size < w9.heap.size := Nat.lt_of_lt_of_le s8 h9.size; replace b8 := b8.trans (h9.mono (by omega)); replace q0 := (h9.cell (p := ⟨w.heap.size, 0, none⟩) s8).trans q0; replace q1 := (h9.cell (p := ⟨w.heap.size, 1, none⟩) s8).trans q1; replace q2 := (h9.cell (p := ⟨w.heap.size, 2, none⟩) s8).trans q2; replace q3 := (h9.cell (p := ⟨w.heap.size, 3, none⟩) s8).trans q3; replace g0 := (h9.frozen (p := ⟨w.heap.size, 0, none⟩) s8).trans g0; replace g1 := (h9.frozen (p := ⟨w.heap.size, 1, none⟩) s8).trans g1; replace g2 := (h9.frozen (p := ⟨w.heap.size, 2, none⟩) s8).trans g2; replace g3 := (h9.frozen (p := ⟨w.heap.size, 3, none⟩) s8).trans g3; replace bk := Aside0.mk ((h9.block _ s8).trans bk.out); clear h9 s8 V8; have s8 := s9; clear s9))
      refine bodyPost_ret (results_ctt rfl _ _ w.heap.size 85 _ (0, 0) _ rfl (blk_alloc (blk_set (blk_set (blk_set (blk_set bk.out 0 _) 1 _) 2 _) 3 _) _) Tryz.underlying85 rfl (by kernel_rfl)) rfl ?_
      exact ⟨rfl, ((((b8.setCell (Nat.le_refl _) _).setCell (Nat.le_refl _) _).setCell (Nat.le_refl _) _).setCell (Nat.le_refl _) _).alloc (by simpa using (Nat.le_of_lt s8)) _⟩
    | ok t =>
      obtain ⟨tk, tn, ts⟩ := t
      rw [ht] at TC
      unfold tokV at TC
      simp only at TC
      go_enter Tryz.func49, Tryz.ntmps49
      go_wp2_with (first | (go_at_call 62; refine (IB _).mono ?_; rintro e w8 ⟨rfl, rfl⟩) | (go_at_call 63; refine (WC1 _).mono ?_; rintro e w8 ⟨rfl, h8⟩; obtain ⟨q0, q1, q2, q3, g0, g1, g2, g3, s8, b8, bk⟩ := tok_cells h8; clear h8; replace bk := Aside0.mk bk; have V8 := Aside0.mk (hV.below b8 (Nat.le_refl _))) | (go_at_call 64; refine (TC w8 V8.out).mono ?_; rintro e w9 ⟨rfl, h9⟩; have s9 : w.heap.size < w9.heap.size := Nat.lt_of_lt_of_le s8 h9.size; replace b8 := b8.trans (h9.mono (by omega)); replace q0 := (h9.cell (p := ⟨w.heap.size, 0, none⟩) s8).trans q0; replace q1 := (h9.cell (p := ⟨w.heap.size, 1, none⟩) s8).trans q1; replace q2 := (h9.cell (p := ⟨w.heap.size, 2, none⟩) s8).trans q2; replace q3 := (h9.cell (p := ⟨w.heap.size, 3, none⟩) s8).trans q3; replace g0 := (h9.frozen (p := ⟨w.heap.size, 0, none⟩) s8).trans g0; replace g1 := (h9.frozen (p := ⟨w.heap.size, 1, none⟩) s8).trans g1; replace g2 := (h9.frozen (p := ⟨w.heap.size, 2, none⟩) s8).trans g2; replace g3 := (h9.frozen (p := ⟨w.heap.size, 3, none⟩) s8).trans g3; replace bk := Aside0.mk ((h9.block _ s8).trans bk.out); clear h9 s8 V8; have s8 := s9; clear s9))
      refine bodyPost_ret (results_ctt rfl _ _ w.heap.size 85 _ (0, 0) _ rfl (blk_alloc (blk_set (blk_set (blk_set (blk_set bk.out 0 _) 1 _) 2 _) 3 _) _) Tryz.underlying85 rfl (by kernel_rfl)) rfl ?_
      exact ⟨rfl, ((((b8.setCell (Nat.le_refl _) _).setCell (Nat.le_refl _) _).setCell (Nat.le_refl _) _).setCell (Nat.le_refl _) _).alloc (by simpa using (Nat.le_of_lt s8)) _⟩
end Go.Proofs.YtomhkemdafiphaaGreatDoor.LexC
/- The contract of lex.Lex; each states its conditions. -/
namespace Go.Proofs.YtomhkemdafiphaaGreatDoor.LexC
open Go Go.RowKit Go.Proofs.YtomhkemdafiphaaGreatDoor.LexP Go.Proofs.YtomhkemdafiphaaGreatDoor.Own Go.Proofs.YtomhkemdafiphaaGreatDoorW.PrintWords
theorem below_tail {B : Nat} {w : World} {o : Obj} (h : B ≤ w.heap.size) : Below B w (w.alloc o) := (Below.refl _ w).alloc h _
def tokC (t : Tok) : List Value := [.int .u8 t.kind, .int .i64 t.pos, .int .i64 t.n, .string ⟨t.s.toArray⟩]
def intOf5 : Value → Int | .int _ q => q | _ => 0
theorem comb_comb (a b : List Tok) (x : Except (Nat × Int) (List Tok)) : comb (a ++ b) x = comb a (comb b x) := by cases x <;> simp [comb]
/-- Lex's answer as it is told -/
def LexPost (base : Nat) (x : Except (Nat × Int) (List Tok)) (e : Ending) (w' : World) : Prop := match x with
  | .error (i, er) => e = .returned (.tuple #[.slice none 0 0, .int .i64 i, .int .i64 er])
  | .ok ts => ∃ B c, e = .returned (.tuple #[.slice B ts.length c, .int .i64 0, .int .i64 0]) ∧ w'.ownsRow base 85 4 (.slice B ts.length c) ts.length (ts.flatMap tokC)
set_option maxHeartbeats 4000000 in
set_option maxRecDepth 100000 in
theorem lex_calls (s : ByteArray) (w : World) (hV : Vars w) :
    Calls Tryz.prog 33 #[.string s] w fun e w' => LexPost w.heap.size (lexF s.data.toList) e w' ∧ Below w.heap.size w w' := by
  have hz := Lib.hid (Lib.size_eq s)
  unfold lexF
  rw [← Lib.size_eq]
  by_cases hs : 4000 < s.size
  · have c1 : decide (4000 < (s.size : Int)) = true := decide_eq_true (by omega)
    have c1' : decide (4000 < s.size) = true := decide_eq_true hs
    rw [if_pos hs]
    clear hV
    go_enter Tryz.func33, Tryz.ntmps33
    go_wp2
    go_ret3
    exact ⟨rfl, Below.refl _ _⟩
  have c1 : decide (4000 < (s.size : Int)) = false := decide_eq_false (by omega)
  have c1' : decide (4000 < s.size) = false := decide_eq_false hs
  rw [if_neg hs]
  replace hV := Aside0.mk hV
  have PC := fun x w h => passed_calls x w h
  have PC0 := fun w => PC s w (by omega)
  generalize hl : s.data.toList = l at PC0 ⊢
  have hll := Lib.hid (show l.length = s.size by rw [← hl, Lib.size_eq])
  generalize hR : lexL 0 l = R
  obtain ⟨k0, hk0⟩ : ∃ k : Nat, l.length - (pass false l).length = k := ⟨_, rfl⟩
  rw [hk0] at PC0
  have h0 := Lib.hid (lexL_pass 0 l)
  have hd0 : Hid (pass false l = l.drop k0) := by rw [← hk0]; exact pass_suffix false l
  have hpl : Hid ((pass false l).length ≤ l.length) := pass_le false l
  have hl' := Lib.hid hl
  have hR' := Lib.hid hR
  have hk0' := Lib.hid hk0
  clear hl hR hk0 hz
  go_enter Tryz.func33, Tryz.ntmps33
  go_wp2_with (go_at_call 48; refine (PC0 _).mono ?_; rintro e w8 ⟨rfl, h8⟩)
  go_loopw [5, 6] (fun v i wr => ∃ (k : Nat) (acc : List Tok) (B : Option Addr) (c : Nat), v = .slice B acc.length c ∧ i = .int .i64 k ∧ k ≤ s.size ∧ Hid (pass false (l.drop k) = l.drop k) ∧ Hid (R = comb acc (lexL k (l.drop k))) ∧ acc.length ≤ k ∧ Aside0 (wr.ownsRow w.heap.size 85 4 (.slice B acc.length c) acc.length (acc.flatMap tokC)) ∧ Aside0 (Below w.heap.size w wr)) (fun _ i _ => s.size - (intOf5 i).toNat)
  case atStart =>
    refine ⟨k0, [], none, 0, rfl, rfl, ?_, ?_, ?_, by simp, ⟨World.ownsRow_nil _ _ _ _⟩, ⟨h8⟩⟩
    · have a1 : l.length = s.size := hll
      have a2 : l.length - (pass false l).length = k0 := hk0'
      omega
    · show pass false (l.drop k0) = l.drop k0
      rw [← show pass false l = l.drop k0 from hd0, pass_pass]
    · show R = comb [] (lexL k0 (l.drop k0))
      have a1 : lexL 0 l = R := hR'
      have a2 : lexL 0 l = lexL (0 + (l.length - (pass false l).length)) (pass false l) := h0
      have a3 : l.length - (pass false l).length = k0 := hk0'
      rw [← a1, a2, a3, Nat.zero_add, show pass false l = l.drop k0 from hd0]
      cases lexL k0 (l.drop k0) <;> simp [comb]
  case round =>
    obtain ⟨k, acc, B, cB, rfl, rfl, hk, hp, hr, hak, hO, hB⟩ := hrel
    have V1 := Aside0.mk (hV.out.below hB.out (Nat.le_refl _))
    by_cases hkl : k < s.size
    · have e0 : decide ((k : Int) < (s.size : Int)) = true := decide_eq_true (by omega)
      have e0' : decide (k < s.size) = true := decide_eq_true hkl
      have e1 : (0 : Int) ≤ (k : Int) := by omega
      have e2 : (k : Int) ≤ (s.size : Int) := by omega
      obtain ⟨c, r, hcr⟩ : ∃ c r, l.drop k = c :: r := by
        have a1 : l.length = s.size := hll
        cases hx : l.drop k with
        | nil => rw [List.drop_eq_nil_iff] at hx; omega
        | cons c r => exact ⟨c, r, rfl⟩
      have hxs : (s.extract k s.size).data.toList = c :: r := by
        rw [ext_list, show s.data.toList = l from hl', List.take_of_length_le (by rw [List.length_drop, show l.length = s.size from hll]; exact Nat.le_refl _), hcr]
      have hxz : (s.extract k s.size).size < 4294967296 := by
        rw [Lib.size_eq, hxs, ← hcr, List.length_drop, show l.length = s.size from hll]; omega
      have FC := fun w hV => first_calls (s.extract k s.size) c r w hxs hxz hV
      have hT := Lib.hid (lexL_tok k c r (by rw [← hcr]; exact hp))
      have hcr' := Lib.hid hcr
      clear hxs hxz hcr
      cases hf : firstP (c :: r) with
      | error er =>
        rw [hf] at FC hT
        have hRv : R = .error (k, er) := by
          rw [show R = comb acc (lexL k (l.drop k)) from hr, show l.drop k = c :: r from hcr', show lexL k (c :: r) = _ from hT]; rfl
        have hRv' := Lib.hid hRv
        clear hRv
        unfold firstV at FC
        simp only at FC
        have e3 : (er != 0) = true := by have := firstP_err hf; simpa using this
        go_wp2_with (go_at_call 49; refine (FC wr V1.out).mono ?_; rintro e w9 ⟨rfl, h9⟩)
        go_ret3
        rw [show R = _ from hRv']
        exact ⟨rfl, hB.out.trans ((h9.mono hB.out.size).trans (below_tail (Nat.le_trans hB.out.size h9.size)))⟩
      | ok x =>
        obtain ⟨⟨tk, tn, ts⟩, n⟩ := x
        rw [hf] at FC hT
        simp only [firstV] at FC
        have hn := firstP_pos hf
        have hrl : r.length + 1 = s.size - k := by
          have a1 : (l.drop k).length = l.length - k := List.length_drop
          rw [show l.drop k = c :: r from hcr', show l.length = s.size from hll] at a1
          simpa using a1
        have hyl : (s.extract (k + n) s.size).data.toList = l.drop (k + n) := by
          rw [ext_list, show s.data.toList = l from hl', List.take_of_length_le (by rw [List.length_drop, show l.length = s.size from hll]; exact Nat.le_refl _)]
        have hyz : (s.extract (k + n) s.size).size < 4294967296 := by
          rw [Lib.size_eq, hyl, List.length_drop, show l.length = s.size from hll]; omega
        have PC1 := fun w => PC (s.extract (k + n) s.size) w hyz
        rw [hyl] at PC1
        obtain ⟨k2, hk2⟩ : ∃ k2 : Nat, (l.drop (k + n)).length - (pass false (l.drop (k + n))).length = k2 := ⟨_, rfl⟩
        rw [hk2] at PC1
        have hk2' := Lib.hid hk2
        have b1 : (k : Int) + (n : Int) ≤ (s.size : Int) := by omega
        have b2 : (0 : Int) ≤ (k : Int) + (n : Int) := by omega
        have hkn : k + n ≤ s.size := by omega
        have hn1 : 1 ≤ n := hn.1
        have hk2l : k + n + k2 ≤ s.size := by
          have a1 : (l.drop (k + n)).length = l.length - (k + n) := List.length_drop
          have a2 : l.length = s.size := hll
          omega
        have hac : acc.length < 4000 := by omega
        clear hyl hyz hk2 hrl hn hf
        go_wp2_with (first | (go_at_call 49; refine (FC wr V1.out).mono ?_; rintro e w9 ⟨rfl, h9⟩; replace hO := Aside0.mk (own_keep hO.out (Heap.Chg.of_below (F := []) h9) (by simp)); replace hB := Aside0.mk (hB.out.trans (h9.mono hB.out.size))) | (at_builtin; refine app rfl (.tmp 39) (.tmp 41) 78 rfl w.heap.size 85 _ 4 40 Tryz.underlying78 infoTok rfl (by decide) (by decide) _ acc.length _ rfl (own_keep hO.out (((Heap.Chg.refl [] w9).alloc _).alloc _) (by simp)) _ 1 _ rfl (src_new [.int .u8 tk, .int .i64 (k : Int), .int .i64 tn, .string ⟨ts.toArray⟩] 85 4 1 1 _ rfl (by simp)) (by intro u hu; simp at hu; rcases hu with rfl | rfl | rfl | rfl <;> rfl) (by have := hB.out.size; simp; omega) (by omega) ?_; intro B2 c2 w3 ho3 hc3 _; replace hB := Aside0.mk (Heap.Chg.below ((((Heap.Chg.of_below (F := []) hB.out).alloc _).alloc _).trans hc3 (fun b hb => .inr (hO.out.lt b (mem_ob.1 hb)).1))); clear hO hc3; have hO := Aside0.mk ho3; clear ho3) | (go_at_call 48; refine (PC1 _).mono ?_; rintro e w8 ⟨rfl, h8⟩; replace hO := Aside0.mk (own_keep hO.out (Heap.Chg.of_below (F := []) h8) (by simp)); replace hB := Aside0.mk (hB.out.trans (h8.mono hB.out.size))))
        go_roundw
        case rel =>
          have hq : pass false (l.drop (k + n)) = l.drop (k + n + k2) := by
            have a1 := pass_suffix false (l.drop (k + n))
            rw [show (l.drop (k + n)).length - (pass false (l.drop (k + n))).length = k2 from hk2', List.drop_drop] at a1
            exact a1
          refine ⟨k + n + k2, acc ++ [⟨tk, (k : Int), tn, ts⟩], B2, c2, by simp, by simp, hk2l, ?_, ?_, by simp; omega, ?_, hB⟩
          · show pass false (l.drop (k + n + k2)) = l.drop (k + n + k2)
            rw [← hq, pass_pass]
          · show R = _
            have a2 : (c :: r).drop n = l.drop (k + n) := by rw [← show l.drop k = c :: r from hcr', List.drop_drop]
            have a3 : lexL k (c :: r) = (match lexL (k + n) (List.drop n (c :: r)) with
              | .error e => .error e
              | .ok ts_1 => .ok (⟨tk, (k : Int), tn, ts⟩ :: ts_1)) := hT
            rw [comb_comb, ← hq, show R = comb acc (lexL k (l.drop k)) from hr, show l.drop k = c :: r from hcr', a3, a2, lexL_pass (k + n) (l.drop (k + n)), show (l.drop (k + n)).length - (pass false (l.drop (k + n))).length = k2 from hk2']
            cases lexL (k + n + k2) (pass false (l.drop (k + n))) <;> rfl
          · have a4 : (acc ++ [(⟨tk, (k : Int), tn, ts⟩ : Tok)]).length = acc.length + 1 := by simp
            rw [a4, List.flatMap_append]
            exact hO
        case measure =>
          simp [intOf5]; omega
    · have e0 : decide ((k : Int) < (s.size : Int)) = false := decide_eq_false (by omega)
      have e0' : decide (k < s.size) = false := decide_eq_false hkl
      have hRv : R = .ok acc := by
        rw [show R = comb acc (lexL k (l.drop k)) from hr, List.drop_eq_nil_iff.2 (by rw [show l.length = s.size from hll]; omega), lexL_nil]; simp [comb]
      go_wp2
      go_ret3
      rw [hRv]
      exact ⟨⟨B, cB, rfl, hO.out⟩, hB.out⟩
end Go.Proofs.YtomhkemdafiphaaGreatDoor.LexC
/- What the row lays of the variable that strconv reads; each states its conditions. -/
namespace Go.Proofs.YtomhkemdafiphaaGreatDoor.LexC
open Go Go.RowKit
theorem errStar : "*" ++ "errors.errorString" = "*errors.errorString" := by decide
theorem errRow (u : TypeId) (h : Tryz.prog.typeName? 3 u = some "*errors.errorString") : u = 205 :=
  typeName_ptr_named (nm := "errors.errorString") (by rw [errStar]; kernel_rfl) (by kernel_rfl) (by decide) u (by rw [errStar]; exact h)
theorem vars_of {W : World} {l : List (String × DataW Unit)} (h : laidMetH Tryz.prog l W) (h0 : (l.all fun x => x.2.handleName?.isNone) = true)
    (hf : l.filter (fun x => x.1 == "strconv.ErrRange") = [("strconv.ErrRange", .iface "*errors.errorString" (.ptr (.agg [.lit (.string [118, 97, 108, 117, 101, 32, 111, 117, 116, 32, 111, 102, 32, 114, 97, 110, 103, 101])])))]) : Vars W := by
  rw [MakeChecks.laidMetH_plain _ _ _ h0] at h
  have h1 := h.filter (fun x => x.1 == "strconv.ErrRange")
  rw [hf] at h1
  obtain ⟨a, s, hv, _⟩ := laid_sentinel h1 (show Tryz.prog.globalNamed "strconv.ErrRange" = some 5 by kernel_rfl) (show (Tryz.prog.globals[5]?).map (·.type) = some 113 by kernel_rfl) Tryz.underlying113 errRow Tryz.underlying205 Tryz.underlying207 rfl rfl Tryz.underlying9 (by kernel_rfl) (by kernel_rfl)
  exact ⟨_, World.var?_cell (by kernel_rfl) hv 0, .inr ⟨_, _, rfl⟩⟩
end Go.Proofs.YtomhkemdafiphaaGreatDoor.LexC

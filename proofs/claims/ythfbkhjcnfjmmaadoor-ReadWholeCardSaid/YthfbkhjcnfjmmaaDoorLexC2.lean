/- Contracts of lex's inner functions; each states its conditions. -/
import Derived.Test.YthfbkhjcnfjmmaaDoorLexC1
import Derived.Test.YthfbkhjcnfjmmaaDoorLexP
import Derived.Test.YthfbkhjcnfjmmaaDoorWWords
import Derived.Shelf.Strings.SlTrimAscii
import Derived.Lib.Hide
namespace Go.Proofs.YthfbkhjcnfjmmaaDoor.LexC
open Go Go.RowKit Go.Proofs.YthfbkhjcnfjmmaaDoor.LexP Go.Proofs.YthfbkhjcnfjmmaaDoorW.PrintWords
theorem isLetter_all : ∀ n < 256, isLetter (UInt8.ofNat n) = runeP (n : Int) := by decide +kernel
theorem isLetter_rune (c : UInt8) : isLetter c = runeP (c.toNat : Int) := by
  have := isLetter_all c.toNat c.toNat_lt
  rwa [UInt8.ofNat_toNat] at this
theorem isLetter_high (c : UInt8) (h : 128 ≤ c.toNat) : isLetter c = false := by
  have := @isLetter_all c.toNat c.toNat_lt
  rw [UInt8.ofNat_toNat] at this
  rw [this]
  have h2 := c.toNat_lt
  unfold runeP
  rw [decide_eq_false (by omega : ¬ (97 ≤ ((c.toNat : Nat) : Int) ∧ ((c.toNat : Nat) : Int) ≤ 122)), decide_eq_false (by omega : ¬ (65 ≤ ((c.toNat : Nat) : Int) ∧ ((c.toNat : Nat) : Int) ≤ 90)), decide_eq_false (by omega : ¬ (48 ≤ ((c.toNat : Nat) : Int) ∧ ((c.toNat : Nat) : Int) ≤ 57)), decide_eq_false (by omega : ¬ ((c.toNat : Nat) : Int) < 128)]
  rfl
theorem byte_at (s : ByteArray) (i : Nat) (h : i < s.size) : s.data.toList[i]? = some (s[i]'h) := Lib.data_getElem? s i h
theorem below_iter (B : Nat) (w : World) (s : ByteArray) (p : Nat) (h : B ≤ w.heap.size) : Below B w (w.iter s p) := (Below.refl _ w).alloc h _
set_option maxHeartbeats 1000000 in
/-- word: how many letters of a name a text begins with -/
theorem word_calls (s : ByteArray) (w : World) :
    Calls Tryd.prog 38 #[.string s] w fun e w' => e = .returned (.int .i64 ((word s.data.toList).length : Nat)) ∧ Below w.heap.size w w' := by
  go_enter Tryd.func38, Tryd.ntmps38
  go_wp2
  go_loopw [] (fun w' => ∃ pos : Nat, w' = w.iter s pos ∧ pos ≤ s.size ∧ ∀ i c, i < pos → s.data.toList[i]? = some c → isLetter c = true) (fun w' => s.size - w'.iterPos w.heap.size)
  case atStart => exact ⟨0, rfl, by omega, fun i c h => absurd h (by omega)⟩
  case round =>
    obtain ⟨pos, rfl, hle, hall⟩ := hrel
    by_cases hp : pos < s.size
    · have hat := byte_at s pos hp
      by_cases hlo : (s[pos]'hp).toNat < 128
      · have hnx : ∀ ty, (Instr.next (.pointer (some ⟨w.heap.size, 0, none⟩)) true ty).run Tryd.prog (w.iter s pos) = _ := fun ty => run_next_ascii w s pos ty hp hlo
        have LW := fun w => letter_low ((s[pos]'hp).toNat : Int) w (by omega) (by omega)
        rw [← isLetter_rune] at LW
        cases hl : isLetter (s[pos]'hp) with
        | true =>
          rw [hl] at LW
          go_wp2_with (go_at_call 49; refine (LW _).mono ?_; rintro e w8 ⟨rfl, rfl⟩)
          go_roundw
          case rel => exact ⟨pos + 1, rfl, by omega, fun i c hi hc => by
            by_cases h : i = pos
            · subst h; rw [hat] at hc; injection hc with hc; rw [← hc]; exact hl
            · exact hall i c (by omega) hc⟩
          case measure => simp; omega
        | false =>
          rw [hl] at LW
          go_wp2_with (go_at_call 49; refine (LW _).mono ?_; rintro e w8 ⟨rfl, rfl⟩)
          go_ret
          refine ⟨?_, below_iter _ _ _ _ (Nat.le_refl _)⟩
          rw [word, tw_stop isLetter s.data.toList pos (by rw [← Lib.size_eq]; omega) hall (fun c hc => by rw [hat] at hc; injection hc with hc; rw [← hc]; exact hl)]
          rfl
      · have hnx : ∀ ty, (Instr.next (.pointer (some ⟨w.heap.size, 0, none⟩)) true ty).run Tryd.prog (w.iter s pos) = _ := fun ty => run_next_any w s pos ty hp
        have hr := (decode_high s pos hp (by omega)).1
        have hr2 := decode_le s pos
        have LW := fun w => letter_high ((Utf8.decode s pos).1 : Int) w (by omega) (by omega)
        go_wp2_with (go_at_call 49; refine (LW _).mono ?_; rintro e w8 ⟨rfl, h8⟩)
        go_ret
        refine ⟨?_, (below_iter _ _ _ _ (Nat.le_refl _)).trans (h8.mono (by show w.heap.size ≤ (w.heap.push _).size; simp))⟩
        rw [word, tw_stop isLetter s.data.toList pos (by rw [← Lib.size_eq]; omega) hall (fun c hc => by rw [hat] at hc; injection hc with hc; rw [← hc]; exact isLetter_high _ (by omega))]
        rfl
    · have hnx : ∀ ty, (Instr.next (.pointer (some ⟨w.heap.size, 0, none⟩)) true ty).run Tryd.prog (w.iter s pos) = _ := fun ty => run_next_end w s pos ty hp
      go_wp2
      go_ret
      refine ⟨?_, below_iter _ _ _ _ (Nat.le_refl _)⟩
      have e : pos = s.size := by omega
      subst e
      rw [word, tw_stop isLetter s.data.toList s.size (by rw [← Lib.size_eq]; omega) hall (fun c hc => by rw [List.getElem?_eq_none (by rw [← Lib.size_eq]; omega)] at hc; cases hc)]
      rfl
theorem isDigit_iff (c : UInt8) : isDigit c = true ↔ 48 ≤ c.toNat ∧ c.toNat ≤ 57 := by
  simp only [isDigit, Bool.and_eq_true, decide_eq_true_eq, UInt8.le_iff_toNat_le]; simp
set_option maxHeartbeats 1000000 in
/-- number: is a word one? -/
theorem number_calls (s : ByteArray) (w : World) :
    Calls Tryd.prog 50 #[.string s] w fun e w' => e = .returned (.bool (numP s.data.toList)) ∧ Below w.heap.size w w' := by
  have TP := fun w => Tryd.strings_TrimPrefix s ⟨#[45]⟩ w
  unfold numP
  generalize hd : Lib.trimPrefix s.data.toList [45] = d at TP
  obtain ⟨x, hx⟩ : ∃ x : ByteArray, x = ⟨d.toArray⟩ := ⟨_, rfl⟩
  have hxd : x.data.toList = d := by rw [hx]
  rw [← hx] at TP
  clear hd hx
  subst hxd
  go_enter Tryd.func50, Tryd.ntmps50
  go_wp2_with (go_at_call 57; refine (TP _).mono ?_; rintro e w8 ⟨rfl, rfl⟩)
  go_loopw [] (fun w' => ∃ pos : Nat, w' = w8.iter x pos ∧ pos ≤ x.size ∧ ∀ i c, i < pos → x.data.toList[i]? = some c → isDigit c = true) (fun w' => x.size - w'.iterPos w8.heap.size)
  case atStart => exact ⟨0, rfl, by omega, fun i c h => absurd h (by omega)⟩
  case round =>
    obtain ⟨pos, rfl, hle, hall⟩ := hrel
    by_cases hp : pos < x.size
    · have hat := byte_at x pos hp
      have bad : isDigit (x[pos]'hp) = false → (x.data.toList.all isDigit && !x.data.toList.isEmpty) = false := fun h => by
        have : x.data.toList.all isDigit = false := by
          rw [List.all_eq_false]; exact ⟨x[pos]'hp, List.mem_of_getElem? hat, by simp [h]⟩
        rw [this]; rfl
      by_cases hlo : (x[pos]'hp).toNat < 128
      · have hnx : ∀ ty, (Instr.next (.pointer (some ⟨w8.heap.size, 0, none⟩)) true ty).run Tryd.prog (w8.iter x pos) = _ := fun ty => run_next_ascii w8 x pos ty hp hlo
        by_cases h1 : (x[pos]'hp).toNat < 48
        · have c1 : decide ((((x[pos]'hp).toNat : Nat) : Int) < 48) = true := decide_eq_true (by omega)
          have c1' : decide ((x[pos]'hp).toNat < 48) = true := decide_eq_true (by omega)
          go_wp2
          go_ret
          rw [bad (by rw [Bool.eq_false_iff, Ne, isDigit_iff]; omega)]
          exact ⟨rfl, below_iter _ _ _ _ (Nat.le_refl _)⟩
        · have c1 : decide ((((x[pos]'hp).toNat : Nat) : Int) < 48) = false := decide_eq_false (by omega)
          have c1' : decide ((x[pos]'hp).toNat < 48) = false := decide_eq_false (by omega)
          by_cases h2 : 57 < (x[pos]'hp).toNat
          · have c2 : decide (57 < (((x[pos]'hp).toNat : Nat) : Int)) = true := decide_eq_true (by omega)
            have c2' : decide (57 < (x[pos]'hp).toNat) = true := decide_eq_true (by omega)
            go_wp2
            go_ret
            rw [bad (by rw [Bool.eq_false_iff, Ne, isDigit_iff]; omega)]
            exact ⟨rfl, below_iter _ _ _ _ (Nat.le_refl _)⟩
          · have c2 : decide (57 < (((x[pos]'hp).toNat : Nat) : Int)) = false := decide_eq_false (by omega)
            have c2' : decide (57 < (x[pos]'hp).toNat) = false := decide_eq_false (by omega)
            go_wp2
            go_roundw
            case rel => exact ⟨pos + 1, rfl, by omega, fun i c hi hc => by
              by_cases h : i = pos
              · subst h; rw [hat] at hc; injection hc with hc; rw [← hc, isDigit_iff]; omega
              · exact hall i c (by omega) hc⟩
            case measure => simp; omega
      · have hnx : ∀ ty, (Instr.next (.pointer (some ⟨w8.heap.size, 0, none⟩)) true ty).run Tryd.prog (w8.iter x pos) = _ := fun ty => run_next_any w8 x pos ty hp
        have hr := (decode_high x pos hp (by omega)).1
        have hr2 := decode_le x pos
        have c1 : decide ((((Utf8.decode x pos).1 : Nat) : Int) < 48) = false := decide_eq_false (by omega)
        have c2 : decide (57 < (((Utf8.decode x pos).1 : Nat) : Int)) = true := decide_eq_true (by omega)
        have c1' : decide ((Utf8.decode x pos).1 < 48) = false := decide_eq_false (by omega)
        have c2' : decide (57 < (Utf8.decode x pos).1) = true := decide_eq_true (by omega)
        go_wp2
        go_ret
        rw [bad (by rw [Bool.eq_false_iff, Ne, isDigit_iff]; omega)]
        exact ⟨rfl, below_iter _ _ _ _ (Nat.le_refl _)⟩
    · have hnx : ∀ ty, (Instr.next (.pointer (some ⟨w8.heap.size, 0, none⟩)) true ty).run Tryd.prog (w8.iter x pos) = _ := fun ty => run_next_end w8 x pos ty hp
      go_wp2
      go_ret
      refine ⟨?_, below_iter _ _ _ _ (Nat.le_refl _)⟩
      have e : x.data.toList.all isDigit = true := by
        rw [List.all_eq_true]; intro c hc
        obtain ⟨i, hi, hic⟩ := List.getElem_of_mem hc
        exact hall i c (by rw [← Lib.size_eq] at hi; omega) (by rw [List.getElem?_eq_getElem hi, hic])
      rw [e, ← Lib.toList_data x]
      rfl
set_option maxHeartbeats 1000000 in
/-- stringslite.Cut at a newline -/
theorem slcut_calls (s : ByteArray) (w : World) (hs : s.size < 4294967296) :
    Calls Tryd.prog 47 #[.string s, .string ⟨#[10]⟩] w fun e w' => (∃ a b, e = .returned (.tuple #[.string a, .string ⟨(nlP s.data.toList).toArray⟩, .bool b])) ∧ Below w.heap.size w w' := by
  have IX := fun w => Tryd.stringslite_Index_one s 10 w
  unfold nlP
  rcases Lib.indexB_cases s ⟨#[10]⟩ with hix | ⟨i, hix, hroom⟩
  · obtain ⟨e1, e2, e3⟩ := Lib.cutB_miss s ⟨#[10]⟩ hix
    rw [show ([10] : List UInt8) = (⟨#[10]⟩ : ByteArray).data.toList from rfl, e2]
    have hx : Lib.indexByte s.data.toList 10 = -1 := by rw [← Lib.index_one]; exact hix
    rw [hx] at IX
    go_enter Tryd.func47, Tryd.ntmps47
    go_wp2_with (go_at_call 55; refine (IX _).mono ?_; rintro e w8 ⟨rfl, rfl⟩)
    go_ret3
    exact ⟨⟨_, _, rfl⟩, Below.refl _ _⟩
  · obtain ⟨e1, e2, e3⟩ := Lib.cutB_hit s ⟨#[10]⟩ i hix
    rw [show ([10] : List UInt8) = (⟨#[10]⟩ : ByteArray).data.toList from rfl, e2]
    have hx : Lib.indexByte s.data.toList 10 = i := by rw [← Lib.index_one]; exact hix
    rw [hx] at IX
    have hroom : i + 1 ≤ s.size := hroom
    have c1 : (0 : Int) ≤ ↑i := by omega
    have c2 : (↑i : Int) ≤ ↑s.size := by omega
    have c3 : (0 : Int) ≤ ↑i + 1 := by omega
    have c4 : (↑i + 1 : Int) ≤ ↑s.size := by omega
    have mixed : Tryd.prog.follows Departure.mixedOrders = true := by kernel_rfl
    go_enter Tryd.func47, Tryd.ntmps47
    go_wp2_with (go_at_call 55; refine (IX _).mono ?_; rintro e w8 ⟨rfl, rfl⟩)
    go_region_o
    go_wp2
    go_ret3
    exact ⟨⟨_, _, rfl⟩, (Below.refl _ _).drew⟩
theorem cut_calls (s : ByteArray) (w : World) (hs : s.size < 4294967296) :
    Calls Tryd.prog 36 #[.string s, .string ⟨#[10]⟩] w fun e w' => (∃ a b, e = .returned (.tuple #[.string a, .string ⟨(nlP s.data.toList).toArray⟩, .bool b])) ∧ Below w.heap.size w w' := by
  have CC := fun w => slcut_calls s w hs
  go_enter Tryd.func36, Tryd.ntmps36
  go_wp2_with (go_at_call 47; refine (CC _).mono ?_; rintro e w8 ⟨⟨a, b, rfl⟩, h8⟩)
  go_ret3
  exact ⟨⟨_, _, rfl⟩, h8⟩
theorem trim_calls (s : ByteArray) (w : World) :
    Calls Tryd.prog 34 #[.string s, .string ⟨#[32, 9, 10]⟩] w fun e w' => e = .returned (.string ⟨(trimB s.data.toList).toArray⟩) ∧ Below w.heap.size w w' :=
  Any.strings_TrimLeft_laid Tryd.lays161 (by kernel_rfl) s ⟨#[32, 9, 10]⟩ w (by decide) (fun j b h => by
    have : b ∈ [(32 : UInt8), 9, 10] := List.mem_of_getElem? h
    simp only [List.mem_cons, List.not_mem_nil, or_false] at this
    rcases this with rfl | rfl | rfl <;> decide)
theorem sz_mk (l : List UInt8) : (⟨l.toArray⟩ : ByteArray).size = l.length := by rw [Lib.size_eq]
theorem nlP_lt (c : UInt8) (r : List UInt8) : (nlP (c :: r)).length ≤ r.length := by
  unfold nlP Lib.cut; split
  · simp only [List.length_drop, List.length_cons, List.length_nil]; omega
  · simp
theorem hasPre (c : UInt8) (r : List UInt8) : Lib.hasPrefix (c :: r) [59] = (c == 59) := by
  unfold Lib.hasPrefix
  by_cases h : c == 59
  · have : c = 59 := by simpa using h
    subst this; simp
  · have : ¬ (59 : UInt8) = c := fun e => h (by simp [e])
    rw [Bool.eq_false_iff.mpr h]
    show ((59 : UInt8) == c && _) = false
    rw [show ((59 : UInt8) == c) = false from by simpa using this]; rfl
def strLen : Value → Nat | .string b => b.size | _ => 0
set_option maxHeartbeats 1000000 in
/-- passed: how many bytes are passed over -/
theorem passed_calls (s : ByteArray) (w : World) (hs : s.size < 4294967296) :
    Calls Tryd.prog 24 #[.string s] w fun e w' => e = .returned (.int .i64 ((s.data.toList.length - (pass false s.data.toList).length : Nat))) ∧ Below w.heap.size w w' := by
  have TL := fun x w => trim_calls x w
  have HP := fun (x : ByteArray) w => Tryd.strings_HasPrefix x ⟨#[59]⟩ w
  have CC := fun x w => cut_calls x w
  go_enter Tryd.func24, Tryd.ntmps24
  go_wp2_with (go_at_call 34; refine (TL _ _).mono ?_; rintro e w8 ⟨rfl, h8⟩)
  go_loopw [0] (fun v w' => ∃ cur : ByteArray, v = .string cur ∧ Hid (pass false s.data.toList = pass false cur.data.toList) ∧ (∀ c r, cur.data.toList = c :: r → isBlank c = false) ∧ cur.size ≤ s.size ∧ Below w.heap.size w w') (fun v _ => strLen v)
  case atStart =>
    refine ⟨_, rfl, Lib.hid (pass_trim _).symm, fun c r h => trimB_head _ c r h, ?_, h8⟩
    rw [sz_mk, Lib.size_eq]; exact trimB_le _
  case round =>
    obtain ⟨cur, rfl, hq, hnb, hle, hB⟩ := hrel
    have HP1 := fun w => HP cur w
    cases hp : Lib.hasPrefix cur.data.toList [59] with
    | true =>
      rw [hp] at HP1
      obtain ⟨r, hr⟩ : ∃ r, cur.data.toList = 59 :: r := by
        unfold Lib.hasPrefix at hp
        cases hc : cur.data.toList with
        | nil => rw [hc] at hp; simp at hp
        | cons c r => rw [hc] at hp; simp at hp; exact ⟨r, by rw [hp]⟩
      have hcl : cur.size = r.length + 1 := by rw [Lib.size_eq, hr]; rfl
      have CC1 := fun w => CC cur w (by omega)
      go_wp2_with (first | (go_at_call 35; refine (HP1 _).mono ?_; rintro e w2 ⟨rfl, rfl⟩) | (go_at_call 36; refine (CC1 _).mono ?_; rintro e w3 ⟨⟨a3, b3, rfl⟩, h3⟩) | (go_at_call 34; refine (TL _ _).mono ?_; rintro e w4 ⟨rfl, h4⟩))
      go_roundw
      case rel =>
        refine ⟨_, rfl, Lib.hid ?_, fun c r h => trimB_head _ c r h, ?_, (hB.trans (h3.mono hB.size)).trans (h4.mono (Nat.le_trans hB.size h3.size))⟩
        · rw [show pass false s.data.toList = pass false cur.data.toList from hq, hr]
          show pass false (59 :: r) = pass false (trimB (nlP (59 :: r)))
          rw [pass_trim, ← pass_nl, pass_t, if_neg (by decide), pass_f, if_neg (by decide), if_pos (by decide)]
        · rw [sz_mk]
          have := trimB_le (nlP (59 :: r))
          have := nlP_lt 59 r
          show (trimB (nlP (59 :: r))).length ≤ s.size
          omega
      case measure =>
        show (ByteArray.mk _).size < cur.size
        rw [sz_mk]
        have := trimB_le (nlP (59 :: r))
        have := nlP_lt 59 r
        show (trimB (nlP (59 :: r))).length < cur.size
        omega
    | false =>
      rw [hp] at HP1
      go_wp2_with (go_at_call 35; refine (HP1 _).mono ?_; rintro e w2 ⟨rfl, rfl⟩)
      go_ret
      refine ⟨?_, hB⟩
      have e : pass false s.data.toList = cur.data.toList := by
        rw [show pass false s.data.toList = pass false cur.data.toList from hq]
        cases hc : cur.data.toList with
        | nil => rfl
        | cons c r => 
          rw [hc] at hp
          exact pass_fix c r (hnb c r hc) (by rw [← hasPre c r]; exact hp)
      rw [e, ← Lib.size_eq, ← Lib.size_eq, Int.ofNat_sub hle]
      rfl
theorem numP_nil : numP [] = false := rfl
theorem numP_cons (c : UInt8) (r : List UInt8) : numP (c :: r) = if c == 45 then r.all isDigit && !r.isEmpty else (c :: r).all isDigit := by
  unfold numP; rw [trimPre]; split <;> simp
theorem parseMag_dig (r : List UInt8) (h : r.all isDigit = true) (hne : r ≠ []) (hl : r.length ≤ 13) : Lib.parseMag r = .ok (magP r) ∧ magP r < 10000000000000 := by
  have hp : 10 ^ r.length ≤ 10 ^ 13 := Nat.pow_le_pow_right (by omega) hl
  have := parse_dig r 0 h (by omega)
  unfold Lib.parseMag
  rw [if_neg hne]
  refine ⟨this.1, ?_⟩
  have h2 := this.2
  unfold magP
  omega
theorem atoi_num (l : List UInt8) (h : numP l = true) (hl : l.length ≤ 13) : Lib.atoiAll l = .ok (valP l) := by
  cases l with
  | nil => simp [numP_nil] at h
  | cons c r =>
    rw [numP_cons] at h
    simp only [List.length_cons] at hl
    by_cases hc : c == 45
    · rw [if_pos hc] at h
      have hc2 : c = 45 := by simpa using hc
      subst hc2
      simp only [Bool.and_eq_true] at h
      obtain ⟨h1, h2⟩ := parseMag_dig r h.1 (by intro e; rw [e] at h; simp at h) (by omega)
      unfold Lib.atoiAll valP
      simp only [show ((45 : UInt8).toNat = 43 ∨ (45 : UInt8).toNat = 45) from .inr rfl, if_true, h1]
      rw [if_neg (by simp), if_neg (by omega)]
      simp
    · rw [if_neg hc] at h
      have hd : isDigit c = true := by simp only [List.all_cons, Bool.and_eq_true] at h; exact h.1
      rw [isDigit_iff] at hd
      obtain ⟨h1, h2⟩ := parseMag_dig (c :: r) h (by simp) (by simp; omega)
      have hv : valP (c :: r) = magP (c :: r) := by
        unfold valP
        split
        · rename_i heq; injection heq with e1 _; rw [e1] at hc; simp at hc
        · rfl
      rw [hv]
      unfold Lib.atoiAll
      have e1 : ¬ (c.toNat = 43 ∨ c.toNat = 45) := by omega
      have e2 : ¬ c.toNat = 45 := by omega
      show (match Lib.parseMag (if c.toNat = 43 ∨ c.toNat = 45 then r else c :: r) with
        | .«syntax» => Lib.NumEnd.«syntax»
        | .range => .range
        | .ok u => if ¬ c.toNat = 45 ∧ 9223372036854775808 ≤ u then .range else if c.toNat = 45 ∧ 9223372036854775808 < u then .range else .ok (if c.toNat = 45 then -(u : Int) else u)) = _
      rw [if_neg e1, h1]
      show (if ¬ c.toNat = 45 ∧ 9223372036854775808 ≤ magP (c :: r) then Lib.NumEnd.range else if c.toNat = 45 ∧ 9223372036854775808 < magP (c :: r) then .range else .ok (if c.toNat = 45 then -(magP (c :: r) : Int) else magP (c :: r))) = _
      rw [if_neg (fun h => by omega), if_neg (fun h => e2 h.1), if_neg e2]
theorem atoi_nosyn (l : List UInt8) (h : numP l = true) : Lib.atoiAll l ≠ .«syntax» := by
  cases l with
  | nil => simp [numP_nil] at h
  | cons c r =>
    rw [numP_cons] at h
    have key : ∀ x : List UInt8, x.all isDigit = true → x ≠ [] → Lib.parseMag x ≠ .«syntax» := fun x h1 h2 => by
      unfold Lib.parseMag; rw [if_neg h2]; exact parse_nosyn x 0 h1
    have hk : Lib.parseMag (if c.toNat = 43 ∨ c.toNat = 45 then r else c :: r) ≠ .«syntax» := by
      by_cases hc : c == 45
      · rw [if_pos hc] at h
        have hc2 : c = 45 := by simpa using hc
        subst hc2
        simp only [Bool.and_eq_true] at h
        rw [if_pos (.inr rfl)]
        exact key r h.1 (by intro e; rw [e] at h; simp at h)
      · rw [if_neg hc] at h
        have hd : isDigit c = true := by simp only [List.all_cons, Bool.and_eq_true] at h; exact h.1
        rw [isDigit_iff] at hd
        rw [if_neg (by omega)]
        exact key _ h (by simp)
    unfold Lib.atoiAll
    simp only
    split
    · rename_i h2; exact absurd h2 hk
    · simp
    · split
      · simp
      · split <;> simp
/-- the variable that strconv reads holds something -/
def Vars (w : World) : Prop := ∃ ev, w.cell? ⟨4, 0, none⟩ = some ev ∧ (ev = .nilIface ∨ ∃ te pe, ev = .iface te pe)
theorem Vars.size {w : World} (h : Vars w) : 4 < w.heap.size := by
  obtain ⟨ev, h, _⟩ := h
  unfold World.cell? at h
  by_cases hk : 4 < w.heap.size
  · exact hk
  · have hn : w.heap[4]? = none := by simp; omega
    simp [hn] at h
theorem Vars.below {w w' : World} (h : Vars w) {B : Nat} (hB : Below B w w') (hb : w.heap.size ≤ B) : Vars w' := by
  obtain ⟨ev, h1, h2⟩ := h
  exact ⟨ev, by rw [hB.cell (show 4 < B from Nat.lt_of_lt_of_le (Vars.size ⟨ev, h1, h2⟩) hb)]; exact h1, h2⟩
/-- a token and how it is told -/
def tokV : Except Int (Int × Int × List UInt8) → Value
  | .error e => .tuple #[.agg #[.int .u8 0, .int .i64 0, .int .i64 0, .string ⟨#[]⟩], .int .i64 e]
  | .ok t => .tuple #[.agg #[.int .u8 t.1, .int .i64 0, .int .i64 t.2.1, .string ⟨t.2.2.toArray⟩], .int .i64 0]
theorem infoTok : (Tryd.prog.info? 48).map (fun i => (i.zero, i.size, i.bytes)) = some (some (.agg #[.int .u8 0, .int .i64 0, .int .i64 0, .string ⟨#[]⟩]), 4, 40) := by kernel_rfl
/-- the cells of a row that was made ahead of a call, behind it -/
theorem kept_cells {w w8 : World} {c : Array Value} {t : TypeId} (h : Below (w.alloc (.cells c t)).heap.size (w.alloc (.cells c t)) w8) :
    (∀ i, w8.cell? ⟨w.heap.size, i, none⟩ = c[i]?) ∧ (∀ i, w8.frozen? ⟨w.heap.size, i, none⟩ = false) ∧ w.heap.size < w8.heap.size ∧ Below w.heap.size w w8 ∧ w8.heap[w.heap.size]? = some (.cells c t (0, 0)) := by
  have hs : (w.alloc (.cells c t)).heap.size = w.heap.size + 1 := by show (w.heap.push _).size = _; simp
  have hb : w8.heap[w.heap.size]? = some (.cells c t (0, 0)) := by
    rw [h.block w.heap.size (by rw [hs]; omega)]
    show (w.heap.push _)[w.heap.size]? = _
    simp
  refine ⟨fun i => ?_, fun i => ?_, ?_, ?_, hb⟩
  · simp [World.cell?, hb]
  · simp [World.frozen?, hb]
  · have := h.size; rw [hs] at this; omega
  · exact ((Below.refl _ w).alloc (Nat.le_refl _) _).trans (h.mono (by rw [hs]; omega))
theorem tok_cells {w w8 : World} {a b c d : Value} {t : TypeId} (h : Below (w.alloc (.cells #[a, b, c, d] t)).heap.size (w.alloc (.cells #[a, b, c, d] t)) w8) :
    w8.cell? ⟨w.heap.size, 0, none⟩ = some a ∧ w8.cell? ⟨w.heap.size, 1, none⟩ = some b ∧ w8.cell? ⟨w.heap.size, 2, none⟩ = some c ∧ w8.cell? ⟨w.heap.size, 3, none⟩ = some d ∧ w8.frozen? ⟨w.heap.size, 0, none⟩ = false ∧ w8.frozen? ⟨w.heap.size, 1, none⟩ = false ∧ w8.frozen? ⟨w.heap.size, 2, none⟩ = false ∧ w8.frozen? ⟨w.heap.size, 3, none⟩ = false ∧ w.heap.size < w8.heap.size ∧ Below w.heap.size w w8 ∧ w8.heap[w.heap.size]? = some (.cells #[a, b, c, d] t (0, 0)) := by
  obtain ⟨h1, h2, h3, h4, h5⟩ := kept_cells h
  exact ⟨h1 0, h1 1, h1 2, h1 3, h2 0, h2 1, h2 2, h2 3, h3, h4, h5⟩
set_option maxHeartbeats 2000000 in
/-- token: that of a word -/
theorem token_calls (s : ByteArray) (w : World) (hs : s.size < 4294967296) (hV : Vars w) :
    Calls Tryd.prog 39 #[.string s] w fun e w' => e = .returned (tokV (tokP s.data.toList)) ∧ Below w.heap.size w w' := by
  have NC := fun w => number_calls s w
  have hlen : s.data.toList.length = s.size := (Lib.size_eq s).symm
  unfold tokP
  rw [hlen]
  cases hn : numP s.data.toList with
  | false =>
    rw [hn] at NC
    rw [if_neg (by simp)]
    clear hV hn hlen
    by_cases h32 : 32 < s.size
    · have c1 : decide (32 < (s.size : Int)) = true := decide_eq_true (by omega)
      have c1' : decide (32 < s.size) = true := decide_eq_true (by omega)
      rw [if_pos h32]
      go_enter Tryd.func39, Tryd.ntmps39
      go_wp2_with (go_at_call 50; refine (NC _).mono ?_; rintro e w8 ⟨rfl, h8⟩; obtain ⟨q0, q1, q2, q3, g0, g1, g2, g3, s8, b8, bk⟩ := tok_cells h8; clear h8; replace bk := Aside0.mk bk)
      refine bodyPost_ret (results_ct rfl _ _ w.heap.size 48 _ (0, 0) _ rfl (blk_set (blk_set (blk_set (blk_set bk.out 0 _) 1 _) 2 _) 3 _) Tryd.underlying48 rfl (by kernel_rfl)) rfl ?_
      exact ⟨rfl, (((b8.setCell (Nat.le_refl _) _).setCell (Nat.le_refl _) _).setCell (Nat.le_refl _) _).setCell (Nat.le_refl _) _⟩
    · have c1 : decide (32 < (s.size : Int)) = false := decide_eq_false (by omega)
      have c1' : decide (32 < s.size) = false := decide_eq_false (by omega)
      rw [if_neg h32]
      go_enter Tryd.func39, Tryd.ntmps39
      go_wp2_with (go_at_call 50; refine (NC _).mono ?_; rintro e w8 ⟨rfl, h8⟩; obtain ⟨q0, q1, q2, q3, g0, g1, g2, g3, s8, b8, bk⟩ := tok_cells h8; clear h8; replace bk := Aside0.mk bk)
      refine bodyPost_ret (results_ct rfl _ _ w.heap.size 48 _ (0, 0) _ rfl (blk_set (blk_set (blk_set (blk_set bk.out 0 _) 1 _) 2 _) 3 _) Tryd.underlying48 rfl (by kernel_rfl)) rfl ?_
      exact ⟨rfl, (((b8.setCell (Nat.le_refl _) _).setCell (Nat.le_refl _) _).setCell (Nat.le_refl _) _).setCell (Nat.le_refl _) _⟩
  | true =>
    rw [hn] at NC
    rw [if_pos rfl]
    by_cases h13 : 13 < s.size
    · have c1 : decide (13 < (s.size : Int)) = true := decide_eq_true (by omega)
      have c1' : decide (13 < s.size) = true := decide_eq_true (by omega)
      rw [if_pos (.inl h13)]
      have AT : ∀ w8, Below w.heap.size w w8 → Calls Tryd.prog 51 #[.string s] w8 fun e w9 => (∃ v n, e = .returned (.tuple #[.int .i64 v, n])) ∧ Below w8.heap.size w8 w9 := by
        intro w8 h8
        have hV8 := hV.below h8 (Nat.le_refl _)
        cases ha : Lib.atoiAll s.data.toList with
        | ok v =>
          refine (Tryd.strconv_Atoi_ok s (by omega) v ha w8).mono ?_
          rintro e w9 ⟨rfl, h | ⟨t, h⟩⟩
          · rw [h]; exact ⟨⟨_, _, rfl⟩, Below.refl _ _⟩
          · rw [h]; exact ⟨⟨_, _, rfl⟩, Lib.bytesWorld_below _ _ _⟩
        | «syntax» => exact absurd ha (atoi_nosyn _ hn)
        | range =>
          obtain ⟨ev, h1, h2⟩ := hV8
          refine (Tryd.strconv_Atoi_range s (by omega) ha ev w8 h1 h2).mono ?_
          rintro e w9 ⟨N, rfl, _, _, h⟩
          exact ⟨⟨_, _, rfl⟩, h⟩
      clear hV hn hlen
      go_enter Tryd.func39, Tryd.ntmps39
      go_wp2_with (first | (go_at_call 50; refine (NC _).mono ?_; rintro e w8 ⟨rfl, h8⟩; obtain ⟨q0, q1, q2, q3, g0, g1, g2, g3, s8, b8, bk⟩ := tok_cells h8; clear h8; replace bk := Aside0.mk bk) | (go_at_call 51; refine (AT w8 b8).mono ?_; rintro e w9 ⟨⟨v9, n9, rfl⟩, h9⟩; have s9 : w.heap.size < w9.heap.size := Nat.lt_of_lt_of_le s8 h9.size; replace b8 := b8.trans (h9.mono (by omega)); replace q0 := (h9.cell (p := ⟨w.heap.size, 0, none⟩) s8).trans q0; replace q1 := (h9.cell (p := ⟨w.heap.size, 1, none⟩) s8).trans q1; replace q2 := (h9.cell (p := ⟨w.heap.size, 2, none⟩) s8).trans q2; replace q3 := (h9.cell (p := ⟨w.heap.size, 3, none⟩) s8).trans q3; replace g0 := (h9.frozen (p := ⟨w.heap.size, 0, none⟩) s8).trans g0; replace g1 := (h9.frozen (p := ⟨w.heap.size, 1, none⟩) s8).trans g1; replace g2 := (h9.frozen (p := ⟨w.heap.size, 2, none⟩) s8).trans g2; replace g3 := (h9.frozen (p := ⟨w.heap.size, 3, none⟩) s8).trans g3; replace bk := Aside0.mk ((h9.block _ s8).trans bk.out); clear h9 s8; have s8 := s9; clear s9))
      refine bodyPost_ret (results_ct rfl _ _ w.heap.size 48 _ (0, 0) _ rfl (blk_set (blk_set (blk_set (blk_set bk.out 0 _) 1 _) 2 _) 3 _) Tryd.underlying48 rfl (by kernel_rfl)) rfl ?_
      exact ⟨rfl, (((b8.setCell (Nat.le_refl _) _).setCell (Nat.le_refl _) _).setCell (Nat.le_refl _) _).setCell (Nat.le_refl _) _⟩
    · have c1 : decide (13 < (s.size : Int)) = false := decide_eq_false (by omega)
      have c1' : decide (13 < s.size) = false := decide_eq_false (by omega)
      have ha := atoi_num _ hn (by omega)
      generalize valP s.data.toList = v at ha ⊢
      have AT : ∀ w8, Below w.heap.size w w8 → Calls Tryd.prog 51 #[.string s] w8 fun e w9 => e = .returned (.tuple #[.int .i64 v, .nilIface]) ∧ Below w8.heap.size w8 w9 := by
        intro w8 h8
        refine (Tryd.strconv_Atoi_ok s (by omega) v ha w8).mono ?_
        rintro e w9 ⟨rfl, h | ⟨t, h⟩⟩
        · rw [h]; exact ⟨rfl, Below.refl _ _⟩
        · rw [h]; exact ⟨rfl, Lib.bytesWorld_below _ _ _⟩
      clear hV hn hlen ha
      by_cases hv1 : v ≤ -1099511627776
      · have c2 : decide (v ≤ -1099511627776) = true := decide_eq_true hv1
        rw [if_pos (.inr (.inl hv1))]
        go_enter Tryd.func39, Tryd.ntmps39
        go_wp2_with (first | (go_at_call 50; refine (NC _).mono ?_; rintro e w8 ⟨rfl, h8⟩; obtain ⟨q0, q1, q2, q3, g0, g1, g2, g3, s8, b8, bk⟩ := tok_cells h8; clear h8; replace bk := Aside0.mk bk) | (go_at_call 51; refine (AT w8 b8).mono ?_; rintro e w9 ⟨rfl, h9⟩; have s9 : w.heap.size < w9.heap.size := Nat.lt_of_lt_of_le s8 h9.size; replace b8 := b8.trans (h9.mono (by omega)); replace q0 := (h9.cell (p := ⟨w.heap.size, 0, none⟩) s8).trans q0; replace q1 := (h9.cell (p := ⟨w.heap.size, 1, none⟩) s8).trans q1; replace q2 := (h9.cell (p := ⟨w.heap.size, 2, none⟩) s8).trans q2; replace q3 := (h9.cell (p := ⟨w.heap.size, 3, none⟩) s8).trans q3; replace g0 := (h9.frozen (p := ⟨w.heap.size, 0, none⟩) s8).trans g0; replace g1 := (h9.frozen (p := ⟨w.heap.size, 1, none⟩) s8).trans g1; replace g2 := (h9.frozen (p := ⟨w.heap.size, 2, none⟩) s8).trans g2; replace g3 := (h9.frozen (p := ⟨w.heap.size, 3, none⟩) s8).trans g3; replace bk := Aside0.mk ((h9.block _ s8).trans bk.out); clear h9 s8; have s8 := s9; clear s9))
        refine bodyPost_ret (results_ct rfl _ _ w.heap.size 48 _ (0, 0) _ rfl (blk_set (blk_set (blk_set (blk_set bk.out 0 _) 1 _) 2 _) 3 _) Tryd.underlying48 rfl (by kernel_rfl)) rfl ?_
        exact ⟨rfl, (((b8.setCell (Nat.le_refl _) _).setCell (Nat.le_refl _) _).setCell (Nat.le_refl _) _).setCell (Nat.le_refl _) _⟩
      · have c2 : decide (v ≤ -1099511627776) = false := decide_eq_false hv1
        by_cases hv2 : 1099511627776 ≤ v
        · have c3 : decide (1099511627776 ≤ v) = true := decide_eq_true hv2
          rw [if_pos (.inr (.inr hv2))]
          go_enter Tryd.func39, Tryd.ntmps39
          go_wp2_with (first | (go_at_call 50; refine (NC _).mono ?_; rintro e w8 ⟨rfl, h8⟩; obtain ⟨q0, q1, q2, q3, g0, g1, g2, g3, s8, b8, bk⟩ := tok_cells h8; clear h8; replace bk := Aside0.mk bk) | (go_at_call 51; refine (AT w8 b8).mono ?_; rintro e w9 ⟨rfl, h9⟩; have s9 : w.heap.size < w9.heap.size := Nat.lt_of_lt_of_le s8 h9.size; replace b8 := b8.trans (h9.mono (by omega)); replace q0 := (h9.cell (p := ⟨w.heap.size, 0, none⟩) s8).trans q0; replace q1 := (h9.cell (p := ⟨w.heap.size, 1, none⟩) s8).trans q1; replace q2 := (h9.cell (p := ⟨w.heap.size, 2, none⟩) s8).trans q2; replace q3 := (h9.cell (p := ⟨w.heap.size, 3, none⟩) s8).trans q3; replace g0 := (h9.frozen (p := ⟨w.heap.size, 0, none⟩) s8).trans g0; replace g1 := (h9.frozen (p := ⟨w.heap.size, 1, none⟩) s8).trans g1; replace g2 := (h9.frozen (p := ⟨w.heap.size, 2, none⟩) s8).trans g2; replace g3 := (h9.frozen (p := ⟨w.heap.size, 3, none⟩) s8).trans g3; replace bk := Aside0.mk ((h9.block _ s8).trans bk.out); clear h9 s8; have s8 := s9; clear s9))
          refine bodyPost_ret (results_ct rfl _ _ w.heap.size 48 _ (0, 0) _ rfl (blk_set (blk_set (blk_set (blk_set bk.out 0 _) 1 _) 2 _) 3 _) Tryd.underlying48 rfl (by kernel_rfl)) rfl ?_
          exact ⟨rfl, (((b8.setCell (Nat.le_refl _) _).setCell (Nat.le_refl _) _).setCell (Nat.le_refl _) _).setCell (Nat.le_refl _) _⟩
        · have c3 : decide (1099511627776 ≤ v) = false := decide_eq_false hv2
          rw [if_neg (fun h => by omega)]
          go_enter Tryd.func39, Tryd.ntmps39
          go_wp2_with (first | (go_at_call 50; refine (NC _).mono ?_; rintro e w8 ⟨rfl, h8⟩; obtain ⟨q0, q1, q2, q3, g0, g1, g2, g3, s8, b8, bk⟩ := tok_cells h8; clear h8; replace bk := Aside0.mk bk) | (go_at_call 51; refine (AT w8 b8).mono ?_; rintro e w9 ⟨rfl, h9⟩; have s9 : w.heap.size < w9.heap.size := Nat.lt_of_lt_of_le s8 h9.size; replace b8 := b8.trans (h9.mono (by omega)); replace q0 := (h9.cell (p := ⟨w.heap.size, 0, none⟩) s8).trans q0; replace q1 := (h9.cell (p := ⟨w.heap.size, 1, none⟩) s8).trans q1; replace q2 := (h9.cell (p := ⟨w.heap.size, 2, none⟩) s8).trans q2; replace q3 := (h9.cell (p := ⟨w.heap.size, 3, none⟩) s8).trans q3; replace g0 := (h9.frozen (p := ⟨w.heap.size, 0, none⟩) s8).trans g0; replace g1 := (h9.frozen (p := ⟨w.heap.size, 1, none⟩) s8).trans g1; replace g2 := (h9.frozen (p := ⟨w.heap.size, 2, none⟩) s8).trans g2; replace g3 := (h9.frozen (p := ⟨w.heap.size, 3, none⟩) s8).trans g3; replace bk := Aside0.mk ((h9.block _ s8).trans bk.out); clear h9 s8; have s8 := s9; clear s9))
          refine bodyPost_ret (results_ct rfl _ _ w.heap.size 48 _ (0, 0) _ rfl (blk_set (blk_set (blk_set (blk_set bk.out 0 _) 1 _) 2 _) 3 _) Tryd.underlying48 rfl (by kernel_rfl)) rfl ?_
          exact ⟨rfl, (((b8.setCell (Nat.le_refl _) _).setCell (Nat.le_refl _) _).setCell (Nat.le_refl _) _).setCell (Nat.le_refl _) _⟩
end Go.Proofs.YthfbkhjcnfjmmaaDoor.LexC

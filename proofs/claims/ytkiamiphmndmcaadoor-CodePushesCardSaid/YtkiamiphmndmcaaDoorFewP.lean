/- The first blocks and what Check tells of them, in plain words; each states its conditions. -/
import Derived.Test.YtkiamiphmndmcaaDoorPCodesx
namespace Go.Proofs.YtkiamiphmndmcaaDoor.PCodes
open Go Go.RowKit Go.Proofs.YtkiamiphmndmcaaDoorW.PrintWords Go.Proofs.YtkiamiphmndmcaaDoorW.PrintMore
/-- the first 8 blocks, of up to 60 instructions -/
def fewP (l : List (S31)) : List (S31) := (l.take 8).map fun b => ⟨b.f0, b.f1.take 60⟩
theorem fewP_next {l : List (S31)} {j : Nat} {b : S31} (h : l[j]? = some b) (hj : j < 8) : fewP (l.take (j + 1)) = fewP (l.take j) ++ [⟨b.f0, b.f1.take 60⟩] := by
  have h1 := (List.getElem?_eq_some_iff.1 h).1
  unfold fewP
  rw [List.take_take, List.take_take, Nat.min_eq_right (by omega), Nat.min_eq_right (by omega), List.take_add_one, h]
  simp
theorem fewP_after {l : List (S31)} {j : Nat} (hj : 8 ≤ j) : fewP (l.take j) = fewP l := by
  unfold fewP
  rw [List.take_take, Nat.min_eq_left hj]
theorem few_run (l : List (S31)) (hl : l.length ≤ 9223372036854775807) (hb : ∀ b ∈ l, b.f1.length ≤ 9223372036854775807) : ∀ (n j : Nat), j + n = l.length → eddywheellaw11_few.l0 (n + 1) (fewP (l.take j)) l (l.length : Int) (j : Int) = some (fewP l)
  | 0, j, hj => by
    obtain rfl : j = l.length := by omega
    simp only [eddywheellaw11_few.l0]
    rw [if_neg (by omega), List.take_length]
  | n + 1, j, hj => by
    have hlt : j < l.length := by omega
    obtain ⟨b, hbj⟩ : ∃ b, l[j]? = some b := ⟨_, List.getElem?_eq_getElem hlt⟩
    have hrd : rd_T31 l (j : Int) = b := by
      unfold rd_T31; rw [Int.toNat_natCast, List.getD_eq_getElem?_getD, hbj]; rfl
    have hw : wrap64 ((j : Int) + 1) = ((j + 1 : Nat) : Int) := by unfold wrap64; omega
    have ih := few_run l hl hb n (j + 1) (by omega)
    have hbl := hb b (List.mem_of_getElem? hbj)
    have hlen : (fewP (l.take j)).length ≤ 8 := by simp [fewP]; omega
    rw [eddywheellaw11_few.l0.eq_def]
    simp only [hrd, hw]
    rw [if_pos (by omega), if_pos (by omega), if_pos (by omega)]
    by_cases h8 : j < 8
    · rw [if_pos (by omega), if_pos (by unfold mn; split <;> omega), if_pos (by unfold mn; split <;> omega), if_pos (by omega)]
      rw [fewP_next hbj h8] at ih
      have ht : b.f1.take (mn (b.f1.length : Int) 60).toNat = b.f1.take 60 := by
        unfold mn
        split
        · rfl
        · rw [Int.toNat_natCast, List.take_of_length_le (Nat.le_refl _), List.take_of_length_le (by omega)]
      rw [ht]
      exact ih
    · rw [if_neg (by omega)]
      rw [fewP_after (by omega)] at ih ⊢
      exact ih
theorem few_ok (l : List (S31)) (hl : l.length ≤ 9223372036854775807) (hb : ∀ b ∈ l, b.f1.length ≤ 9223372036854775807) : eddywheellaw11_few.f (l.length + 1) l = some (fewP l) := few_run l hl hb l.length 0 (by omega)
theorem fewP_len (l : List (S31)) : (fewP l).length ≤ 8 := by simp [fewP]; omega
theorem fewP_ok (l : List (S31)) (hb : ∀ b ∈ l, ∀ i ∈ b.f1, okIns i) : ∀ b ∈ fewP l, okBlock b ∧ b.f1.length ≤ 60 := by
  intro b hm
  obtain ⟨c, hc, rfl⟩ := List.mem_map.1 hm
  exact ⟨⟨by simp; omega, fun i hi => hb c (List.mem_of_mem_take hc) i (List.mem_of_mem_take hi)⟩, by simp; omega⟩
theorem check_some (l : List (S31)) (h : ∀ b ∈ l, okBlock b) : code_Check.f l = some (if l.length = 0 then (0, 0, 1) else chkRun l.length l 0) := by
  unfold code_Check.f
  by_cases h0 : l.length = 0
  · rw [if_pos h0, if_pos h0]
  · rw [if_neg h0, if_neg h0, if_pos h]
theorem chk_codes (bk : Int) : ∀ (l : List (S31)) (n : Nat), (chkRun bk l n).2.2 = 0 ∨ (chkRun bk l n).2.2 = 110
  | [], _ => .inl rfl
  | b :: r, n => by
    simp only [chkRun]
    cases blockBad bk n b with
    | none => exact chk_codes bk r (n + 1)
    | some a => exact .inr rfl
theorem chk_fine (bk : Int) : ∀ (l : List (S31)) (n : Nat), (chkRun bk l n).2.2 = 0 → ∀ (j : Nat) b, l[j]? = some b → blockBad bk (n + j) b = none
  | [], _, _, j, b, hj => by simp at hj
  | c :: r, n, h, j, b, hj => by
    simp only [chkRun] at h
    cases hb : blockBad bk n c with
    | some a => rw [hb] at h; simp at h
    | none =>
      rw [hb] at h
      cases j with
      | zero => simp at hj; subst hj; exact hb
      | succ j =>
        have := chk_fine bk r (n + 1) h j b (by simpa using hj)
        rw [show n + (j + 1) = n + 1 + j by omega]; exact this
theorem chk_all (bk : Int) : ∀ (l : List (S31)) (n : Nat), (∀ (j : Nat) b, l[j]? = some b → blockBad bk (n + j) b = none) → chkRun bk l n = (0, 0, 0)
  | [], _, _ => rfl
  | c :: r, n, h => by
    simp only [chkRun]
    rw [show blockBad bk n c = none from h 0 c rfl]
    exact chk_all bk r (n + 1) (fun j b hj => by have := h (j + 1) b (by simpa using hj); rw [show n + (j + 1) = n + 1 + j by omega] at this; exact this)
/-- what a block is that may be -/
theorem bad_none {bk : Int} {n : Nat} {b : S31} (hb : okBlock b) (h : blockBad bk n b = none) : ∃ d, code_Depth.f b.f0 b.f1 = some (d, true) ∧ depOf b.f1 = some d ∧ 0 < b.f1.length ∧ d.length = b.f1.length ∧ 0 ≤ b.f0 ∧ b.f0 ≤ 100 ∧ (n = 0 → b.f0 = 0) ∧ (-1) ∉ d ∧ firstBad bk b.f1 d 0 = none := by
  obtain ⟨d, ok, hd, hl⟩ := depth_some b hb
  unfold blockBad at h
  rw [hd] at h
  simp only at h
  split at h
  · cases h
  · rename_i hc
    have h1 : ok = true := by cases ok <;> simp_all
    subst h1
    obtain ⟨l0, l1⟩ := hl rfl
    refine ⟨d, hd, ?_, l0, l1, by omega, by omega, fun h0 => ?_, fun hm => hc (.inr (.inr (.inr (.inr (List.contains_iff_mem.2 hm))))), h⟩
    · unfold code_Depth.f at hd
      have hb2 := hb
      unfold okBlock at hb2
      rw [if_neg (by omega), if_pos hb2] at hd
      cases hdd : depOf b.f1 with
      | none => rw [hdd] at hd; simp at hd
      | some d' => rw [hdd] at hd; simp at hd; rw [hd]
    · by_cases h2 : b.f0 = 0
      · exact h2
      · exact absurd (.inr (.inr (.inr (.inl ⟨h0, h2⟩)))) hc
theorem firstBad_may {bk : Int} : ∀ {is : List (S38)} {ds : List Int} {n : Nat}, is.length = ds.length → firstBad bk is ds n = none → ∀ (j : Nat) (i : S38) (x : Int), is[j]? = some i → ds[j]? = some x → mayIns bk i x = true
  | [], _, _, _, _, j, i, x, h1, _ => by simp at h1
  | i :: r, [], _, hl, _, _, _, _, _, _ => by simp at hl
  | i :: r, x :: ds, n, hl, h, j, i', x', h1, h2 => by
    rw [firstBad_cons] at h
    by_cases hm : mayIns bk i x = true
    · rw [if_pos hm] at h
      cases j with
      | zero => simp at h1 h2; rw [← h1, ← h2]; exact hm
      | succ j => exact firstBad_may (by simpa using hl) h j i' x' (by simpa using h1) (by simpa using h2)
    · rw [if_neg hm] at h; cases h
end Go.Proofs.YtkiamiphmndmcaaDoor.PCodes

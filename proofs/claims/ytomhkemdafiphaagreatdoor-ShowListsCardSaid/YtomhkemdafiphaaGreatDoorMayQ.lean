import Derived.Test.YtomhkemdafiphaaGreatDoorPMaysx2
import Derived.Test.YtomhkemdafiphaaGreatDoorShowP
namespace Go.Proofs.YtomhkemdafiphaaGreatDoor.Pure
open Go.RowKit Go.Proofs.YtomhkemdafiphaaGreatDoor.ReadP Go.Proofs.YtomhkemdafiphaaGreatDoor.PMays Go.Proofs.YtomhkemdafiphaaGreatDoorW.PrintWords Go.Proofs.YtomhkemdafiphaaGreatDoorW.PrintLast
def ofN (x : S34) : Nd := ⟨x.f0, x.f1, x.f2, x.f3.data.toList, x.f4⟩
theorem m_w64 (x : Int) (h1 : -9223372036854775808 ≤ x) (h2 : x < 9223372036854775808) : wrap64 x = x := by unfold wrap64; omega
theorem m_tl (s : ByteArray) : s.toList = s.data.toList := by
  obtain ⟨⟨l⟩⟩ := s
  exact ByteArray.toList_mk l
theorem right_ok (x : S34) (k : Nat) : eddywheelref06_right.f (k + 1) x.f0 x.f1 x.f2 x.f3 x.f4 = some (rightB (ofN x)) := by
  obtain ⟨kd, pos, nv, s, l⟩ := x
  unfold eddywheelref06_right.f rightB ofN
  simp only [m_tl]
  generalize s.data.toList = sb
  unfold eddywheelref06_right.j0
  by_cases hp : pos < 0
  · simp [hp]
  · rw [if_neg hp, show decide (pos < 0) = false from decide_eq_false hp]
    clear hp
    have hl : decide ((l.length : Int) > 0) = !(l == []) := by cases l <;> simp
    have hs : (sb = []) ↔ (sb == []) = true := by simp
    by_cases h3 : kd = 3
    · subst h3; rw [hl]; cases h : (l == []) <;> simp_all
    · by_cases h1 : kd = 1
      · subst h1; rw [hl]; cases h : (l == []) <;> by_cases hs : sb = [] <;> simp_all
      · by_cases h2 : kd = 2
        · subst h2; rw [hl]
          by_cases hn : nv = 0
          · cases h : (l == []) <;> by_cases hs : sb = [] <;> simp_all
          · have hn' : (nv == 0) = false := by simpa using hn
            rw [hn']
            cases h : (l == []) <;> by_cases hs : sb = [] <;> simp_all
        · by_cases h4 : kd = 4
          · subst h4; by_cases hs : sb = [] <;> simp_all
          · rw [hl]; cases h : (l == []) <;> by_cases hs : sb = [] <;> simp_all
/-- a row of bools that tells which places have been seen -/
def Bs (bs : List Bool) (seen : List Int) (n : Nat) : Prop := bs.length = n ∧ ∀ p : Nat, p < n → bs.getD p false = decide ((p : Int) ∈ seen)
theorem Bs.set {bs : List Bool} {seen : List Int} {n : Nat} (h : Bs bs seen n) (p : Nat) (hp : p < n) : Bs (bs.set p true) (seen ++ [(p : Int)]) n := by
  refine ⟨by simpa using h.1, fun q hq => ?_⟩
  have := h.2 q hq
  rw [List.getD_eq_getElem?_getD, List.getElem?_set] at *
  by_cases hpq : p = q
  · subst hpq
    rw [if_pos rfl, if_pos (by rw [h.1]; exact hp)]
    simp
  · rw [if_neg hpq, this]
    have : ((q : Int) ∈ seen ++ [(p : Int)]) ↔ (q : Int) ∈ seen := by simp; omega
    simp [this]
theorem may_l1 (x0 : List S34) (i : Nat) (x : S34) (hx : x0[i]? = some x) (hn : x0.length ≤ 1000000) (hl : x.f4.length ≤ 1000000) (G : List Int → Bool) (F : Nat)
    (H : ∀ fuel bs seen, Bs bs seen x0.length → F ≤ fuel → eddywheelref06_May.l0 fuel x0 bs ((i + 1 : Nat) : Int) = some (G seen)) :
    ∀ (d j fuel : Nat) (bs : List Bool) (seen : List Int), d + j = x.f4.length → Bs bs seen x0.length → F + d + 1 ≤ fuel → eddywheelref06_May.l1 fuel x0 bs (i : Int) (j : Int) = some (match seenF i seen (x.f4.drop j) with | none => false | some s => G s) := by
  have hi : i < x0.length := (List.getElem?_eq_some_iff.1 hx).1
  have hrd : rd_T34 x0 (i : Int) = x := by simp [rd_T34, List.getD_eq_getElem?_getD, hx]
  have i1 : wrap64 ((i : Int) + 1) = ((i + 1 : Nat) : Int) := by rw [m_w64 _ (by omega) (by omega)]; omega
  intro d
  induction d with
  | zero =>
    intro j fuel bs seen hd hb hf
    obtain ⟨f, rfl⟩ : ∃ f, fuel = f + 1 := ⟨fuel - 1, by omega⟩
    unfold eddywheelref06_May.l1
    rw [hrd, if_pos (by omega), if_pos (by omega), if_neg (by omega), i1, H f bs seen hb (by omega), List.drop_of_length_le (by omega)]
    rfl
  | succ d ih =>
    intro j fuel bs seen hd hb hf
    obtain ⟨f, rfl⟩ : ∃ f, fuel = f + 1 := ⟨fuel - 1, by omega⟩
    obtain ⟨p, hp⟩ : ∃ p, x.f4[j]? = some p := ⟨_, List.getElem?_eq_getElem (by omega)⟩
    have hr : rd x.f4 (j : Int) = p := by simp [rd, List.getD_eq_getElem?_getD, hp]
    have j1 : wrap64 ((j : Int) + 1) = ((j + 1 : Nat) : Int) := by rw [m_w64 _ (by omega) (by omega)]; omega
    unfold eddywheelref06_May.l1
    have c1 : (0 : Int) ≤ (i : Int) := Int.natCast_nonneg i
    have c2 : (i : Int) < (x0.length : Int) := Int.ofNat_lt.2 hi
    have c3 : (j : Int) < (x.f4.length : Int) := Int.ofNat_lt.2 (List.getElem?_eq_some_iff.1 hp).1
    have c4 : (0 : Int) ≤ (j : Int) := Int.natCast_nonneg j
    rw [hrd, if_pos c1, if_pos c2, if_pos c3, if_pos c4, hr, seen_at hp]
    by_cases h0 : p < 0
    · rw [if_pos h0, if_pos (.inl h0)]
    · rw [if_neg h0]
      by_cases h1 : (i : Int) ≤ p
      · rw [if_pos (show p ≥ (i : Int) from h1), if_pos (.inr (.inl h1))]
      · rw [if_neg (show ¬ p ≥ (i : Int) from h1), if_pos (by omega), if_pos (by rw [hb.1]; omega)]
        obtain ⟨q, rfl⟩ : ∃ q : Nat, p = (q : Int) := ⟨p.toNat, by omega⟩
        have hg := hb.2 q (by omega)
        have hg2 : rdOf false bs (q : Int) = decide ((q : Int) ∈ seen) := by rw [← hg]; simp [rdOf]
        rw [hg2]
        by_cases h2 : (q : Int) ∈ seen
        · rw [if_pos (by simpa using h2), if_pos (.inr (.inr h2))]
        · rw [if_neg (by simpa using h2), if_neg (by rintro (h | h | h) <;> contradiction), j1]
          have := ih (j + 1) f (bs.set q true) (seen ++ [(q : Int)]) (by omega) (hb.set q (by omega)) (by omega)
          rw [show ((q : Int)).toNat = q from Int.toNat_natCast q]
          exact this
theorem may_l0 (x0 : List S34) (hn : x0.length ≤ 1000000) (hl : ∀ x ∈ x0, x.f4.length ≤ 1000000) : ∀ (d i fuel : Nat) (bs : List Bool) (seen : List Int), d + i = x0.length → Bs bs seen x0.length → d * 1000003 + 2 ≤ fuel → eddywheelref06_May.l0 fuel x0 bs (i : Int) = some (mayF i seen ((x0.map ofN).drop i)) := by
  intro d
  induction d with
  | zero =>
    intro i fuel bs seen hd hb hf
    obtain ⟨f, rfl⟩ : ∃ f, fuel = f + 1 := ⟨fuel - 1, by omega⟩
    unfold eddywheelref06_May.l0
    rw [if_neg (by omega), List.drop_of_length_le (by simp; omega)]
    rfl
  | succ d ih =>
    intro i fuel bs seen hd hb hf
    obtain ⟨f, rfl⟩ : ∃ f, fuel = f + 2 := ⟨fuel - 2, by omega⟩
    obtain ⟨x, hx⟩ : ∃ x, x0[i]? = some x := ⟨_, List.getElem?_eq_getElem (by omega)⟩
    have hrd : rd_T34 x0 (i : Int) = x := by simp [rd_T34, List.getD_eq_getElem?_getD, hx]
    have hxm : (x0.map ofN)[i]? = some (ofN x) := by rw [List.getElem?_map, hx]; rfl
    unfold eddywheelref06_May.l0
    rw [hrd, if_pos (by omega), if_pos (by omega), right_ok, Option.bind_some, may_at hxm]
    cases hr : rightB (ofN x) with
    | false => rfl
    | true =>
      rw [if_pos rfl, Bool.true_and]
      have hxl := hl x (List.mem_of_getElem? hx)
      have := may_l1 x0 i x hx hn hxl (fun s => mayF (i + 1) s ((x0.map ofN).drop (i + 1))) (d * 1000003 + 2) (fun fuel bs seen hb hf => ih (i + 1) fuel bs seen (by omega) hb hf) x.f4.length 0 (f + 1) bs seen (by omega) hb (by omega)
      rw [List.drop_zero] at this
      rw [show ((0 : Nat) : Int) = 0 from rfl] at this
      rw [this]
      show _ = some (match seenF i seen x.f4 with | none => false | some s => mayF (i + 1) s ((x0.map ofN).drop (i + 1)))
      rfl
theorem may_f (x0 : List S34) (hn : x0.length ≤ 1000000) (hl : ∀ x ∈ x0, x.f4.length ≤ 1000000) : ∃ k, eddywheelref06_May.f k x0 = some (mayF 0 [] (x0.map ofN)) := by
  refine ⟨x0.length * 1000003 + 2, ?_⟩
  unfold eddywheelref06_May.f
  rw [if_pos (by omega), if_pos (by omega)]
  have := may_l0 x0 hn hl x0.length 0 (x0.length * 1000003 + 2) (List.replicate x0.length false) [] (by omega) ⟨by simp, fun p hp => by simp [List.getD_eq_getElem?_getD, hp]⟩ (Nat.le_refl _)
  rw [List.drop_zero] at this
  rw [show ((x0.length : Int)).toNat = x0.length from Int.toNat_natCast _]
  exact this
end Go.Proofs.YtomhkemdafiphaaGreatDoor.Pure

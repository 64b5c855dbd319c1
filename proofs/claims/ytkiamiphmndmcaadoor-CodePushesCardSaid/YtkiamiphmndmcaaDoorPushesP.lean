/- Of a row of pushes: its depths and what Check tells, in plain words; each states its conditions. -/
import Derived.Test.YtkiamiphmndmcaaDoorFewP
namespace Go.Proofs.YtkiamiphmndmcaaDoor.PCodes
open Go Go.RowKit Go.Proofs.YtkiamiphmndmcaaDoorW.PrintWords Go.Proofs.YtkiamiphmndmcaaDoorW.PrintMore
def iW8 : S38 := ⟨1, 0, 0, 8⟩
def iP : S38 := ⟨7, 0, 0, 0⟩
def iW16 : S38 := ⟨1, 0, 0, 16⟩
def iT (q : Int) : S38 := ⟨13, q, 0, 0⟩
def iC (q : Int) : S38 := ⟨12, q, 0, 0⟩
def iR : S38 := ⟨16, 0, 0, 0⟩
/-- so many words that are pushed -/
def pPre : Nat → List (S38)
  | 0 => []
  | p + 1 => pPre p ++ [iW8, iP]
def dPre : Nat → List Int
  | 0 => []
  | p + 1 => dPre p ++ [(p : Int), (p : Int)]
theorem pPre_len : ∀ p, (pPre p).length = 2 * p
  | 0 => rfl
  | p + 1 => by simp [pPre, pPre_len p]; omega
theorem dPre_len : ∀ p, (dPre p).length = 2 * p
  | 0 => rfl
  | p + 1 => by simp [dPre, dPre_len p]; omega
theorem dPre_nonneg : ∀ p, ∀ x ∈ dPre p, 0 ≤ x
  | 0, x, h => by simp [dPre] at h
  | p + 1, x, h => by
    simp only [dPre, List.mem_append, List.mem_cons, List.not_mem_nil, or_false] at h
    rcases h with h | rfl | rfl
    · exact dPre_nonneg p x h
    · omega
    · omega
theorem pPre_mem : ∀ p, ∀ i ∈ pPre p, i = iW8 ∨ i = iP
  | 0, i, h => by simp [pPre] at h
  | p + 1, i, h => by
    simp only [pPre, List.mem_append, List.mem_cons, List.not_mem_nil, or_false] at h
    rcases h with h | h | h
    · exact pPre_mem p i h
    · exact .inl h
    · exact .inr h
theorem getD_mid (ds : List Int) (x : Int) (r : List Int) : (ds ++ x :: r).getD ds.length 0 = x := by
  rw [List.getD_eq_getElem?_getD, List.getElem?_append_right (Nat.le_refl _), Nat.sub_self]; rfl
theorem step1 {L : List (S38)} {i : S38} {ds : List Int} {x : Int} {m k : Nat} (hk : ds.length = k) (hL : k + 2 + m = L.length) (hf : followsP i k = [(k : Int) + 1]) (h0 : 0 ≤ x) (h1 : 0 ≤ takesP i) (h2 : takesP i ≤ x) :
    depStep L k i (ds ++ x :: List.replicate (m + 1) (-1)) = some ((ds ++ [x]) ++ leftP i x :: List.replicate m (-1)) := by
  unfold depStep
  have hg : (ds ++ x :: List.replicate (m + 1) (-1)).getD k 0 = x := by rw [← hk]; exact getD_mid _ _ _
  have e1 : ((k : Int) + 1).toNat = k + 1 := by omega
  have hg1 : (ds ++ x :: List.replicate (m + 1) (-1)).getD (k + 1) 0 = -1 := by
    rw [List.getD_eq_getElem?_getD, List.getElem?_append_right (by omega), show k + 1 - ds.length = 1 by omega]; rfl
  rw [hg, if_neg (by omega), if_neg (by omega), hf]
  simp only [depSet, e1]
  rw [hg1, if_neg (by omega)]
  congr 1
  rw [List.set_append_right _ _ (by omega), show k + 1 - ds.length = 1 by omega]
  simp [List.replicate_succ]
theorem runPre (L : List (S38)) : ∀ (p m : Nat) (rest : List (S38)), 2 * p + 1 + m = L.length → depRun L 0 (pPre p ++ rest) (0 :: List.replicate (2 * p + m) (-1)) = depRun L (2 * p) rest (dPre p ++ (p : Int) :: List.replicate m (-1))
  | 0, m, rest, _ => by simp [pPre, dPre]
  | p + 1, m, rest, hL => by
    have ih := runPre L p (m + 2) (iW8 :: iP :: rest) (by omega)
    rw [show pPre (p + 1) ++ rest = pPre p ++ (iW8 :: iP :: rest) by simp [pPre], show 2 * (p + 1) + m = 2 * p + (m + 2) by omega, ih]
    simp only [depRun]
    rw [step1 (dPre_len p) (by omega) rfl (by omega) (by decide) (by simp [takesP, iW8]), Option.bind_some]
    rw [step1 (m := m) (by simp [dPre_len]) (by omega) rfl (by simp [leftP, takesP, iW8]) (by decide) (by simp [leftP, takesP, iW8, iP]), Option.bind_some]
    rw [show 2 * p + 1 + 1 = 2 * (p + 1) by omega]
    congr 1
    simp [dPre, leftP, takesP, iW8, iP]
def tailL (p : Nat) (q : Int) := pPre p ++ [iW16, iT q]
def callL (p : Nat) (q : Int) := pPre p ++ [iW16, iC q, iR]
def moreL (p : Nat) (q : Int) := pPre p ++ [iW16, iT q, iR]
theorem follows_ret (i : S38) (h : i.f0 = 13 ∨ i.f0 = 16) (k : Int) : followsP i k = [] := by
  unfold followsP
  rcases h with h | h <;> simp [h]
theorem tail_dep (p : Nat) (q : Int) (h0 : 0 ≤ q) : depOf (tailL p q) = if (p : Int) < q then none else some (dPre p ++ [(p : Int), (p : Int)]) := by
  have hl : (tailL p q).length = 2 * p + 2 := by simp [tailL, pPre_len]
  unfold depOf
  have := runPre (tailL p q) p 1 [iW16, iT q] (by omega)
  rw [show (tailL p q).length - 1 = 2 * p + 1 by omega]
  rw [show depRun (tailL p q) 0 (tailL p q) (0 :: List.replicate (2 * p + 1) (-1)) = depRun (tailL p q) 0 (pPre p ++ [iW16, iT q]) (0 :: List.replicate (2 * p + 1) (-1)) from rfl, this]
  simp only [depRun]
  rw [step1 (m := 0) (dPre_len p) (by omega) rfl (by omega) (by decide) (by simp [takesP, iW16]), Option.bind_some]
  rw [show leftP iW16 (p : Int) = p by simp [leftP, takesP, iW16]]
  unfold depStep
  rw [show 2 * p + 1 = (dPre p ++ [(p : Int)]).length by simp [dPre_len], getD_mid, if_neg (by omega), show takesP (iT q) = q by simp [takesP, iT]]
  by_cases hq : (p : Int) < q
  · rw [if_pos (.inr hq), if_pos hq]; rfl
  · rw [if_neg (by omega), if_neg hq, follows_ret _ (.inl rfl)]
    simp [depSet]
theorem call_dep (p : Nat) (q : Int) (h0 : 0 ≤ q) : depOf (callL p q) = if (p : Int) < q then none else some (dPre p ++ [(p : Int), (p : Int), (p : Int) - q]) := by
  have hl : (callL p q).length = 2 * p + 3 := by simp [callL, pPre_len]
  unfold depOf
  have := runPre (callL p q) p 2 [iW16, iC q, iR] (by omega)
  rw [show (callL p q).length - 1 = 2 * p + 2 by omega]
  rw [show depRun (callL p q) 0 (callL p q) (0 :: List.replicate (2 * p + 2) (-1)) = depRun (callL p q) 0 (pPre p ++ [iW16, iC q, iR]) (0 :: List.replicate (2 * p + 2) (-1)) from rfl, this]
  simp only [depRun]
  rw [step1 (m := 1) (dPre_len p) (by omega) rfl (by omega) (by decide) (by simp [takesP, iW16]), Option.bind_some]
  rw [show leftP iW16 (p : Int) = p by simp [leftP, takesP, iW16]]
  by_cases hq : (p : Int) < q
  · rw [if_pos hq]
    unfold depStep
    rw [show 2 * p + 1 = (dPre p ++ [(p : Int)]).length by simp [dPre_len], getD_mid, if_neg (by omega), show takesP (iC q) = q by simp [takesP, iC], if_pos (.inr hq)]; rfl
  · rw [if_neg hq, step1 (m := 0) (by simp [dPre_len]) (by omega) rfl (by omega) (by simpa [takesP, iC] using h0) (by simp [takesP, iC]; omega), Option.bind_some]
    rw [show leftP (iC q) (p : Int) = (p : Int) - q by simp [leftP, takesP, iC]]
    unfold depStep
    rw [show 2 * p + 1 + 1 = ((dPre p ++ [(p : Int)]) ++ [(p : Int)]).length by simp [dPre_len], getD_mid, if_neg (by omega), show takesP iR = 0 by simp [takesP, iR], if_neg (by omega), follows_ret _ (.inr rfl)]
    simp [depSet]
theorem more_dep (p : Nat) (q : Int) (h0 : 0 ≤ q) : depOf (moreL p q) = if (p : Int) < q then none else some (dPre p ++ [(p : Int), (p : Int), -1]) := by
  have hl : (moreL p q).length = 2 * p + 3 := by simp [moreL, pPre_len]
  unfold depOf
  have := runPre (moreL p q) p 2 [iW16, iT q, iR] (by omega)
  rw [show (moreL p q).length - 1 = 2 * p + 2 by omega]
  rw [show depRun (moreL p q) 0 (moreL p q) (0 :: List.replicate (2 * p + 2) (-1)) = depRun (moreL p q) 0 (pPre p ++ [iW16, iT q, iR]) (0 :: List.replicate (2 * p + 2) (-1)) from rfl, this]
  simp only [depRun]
  rw [step1 (m := 1) (dPre_len p) (by omega) rfl (by omega) (by decide) (by simp [takesP, iW16]), Option.bind_some]
  rw [show leftP iW16 (p : Int) = p by simp [leftP, takesP, iW16]]
  have hs : depStep (moreL p q) (2 * p + 1) (iT q) ((dPre p ++ [(p : Int)]) ++ (p : Int) :: List.replicate 1 (-1)) = if (p : Int) < q then none else some ((dPre p ++ [(p : Int)]) ++ (p : Int) :: List.replicate 1 (-1)) := by
    unfold depStep
    rw [show 2 * p + 1 = (dPre p ++ [(p : Int)]).length by simp [dPre_len], getD_mid, if_neg (by omega), show takesP (iT q) = q by simp [takesP, iT]]
    by_cases hq : (p : Int) < q
    · rw [if_pos (.inr hq), if_pos hq]
    · rw [if_neg (by omega), if_neg hq, follows_ret _ (.inl rfl)]; rfl
  rw [hs]
  by_cases hq : (p : Int) < q
  · rw [if_pos hq, if_pos hq]; rfl
  · rw [if_neg hq, if_neg hq, Option.bind_some]
    unfold depStep
    have e : (dPre p ++ [(p : Int)]) ++ (p : Int) :: List.replicate 1 (-1) = (dPre p ++ [(p : Int), (p : Int)]) ++ (-1) :: [] := by simp
    rw [e, show 2 * p + 1 + 1 = (dPre p ++ [(p : Int), (p : Int)]).length by simp [dPre_len], getD_mid, if_pos rfl]
    simp
theorem okIns_mk {a b c d : Int} (h : 0 ≤ a ∧ a < 256 ∧ -9223372036854775808 ≤ b ∧ b < 9223372036854775808 ∧ -9223372036854775808 ≤ c ∧ c < 9223372036854775808 ∧ 0 ≤ d ∧ d < 18446744073709551616) : okIns ⟨a, b, c, d⟩ := h
theorem pre_ok (p : Nat) : ∀ i ∈ pPre p, okIns i := by
  intro i hi
  rcases pPre_mem p i hi with rfl | rfl
  · exact okIns_mk (by omega)
  · exact okIns_mk (by omega)
theorem lists_ok (p : Nat) (q : Int) (h0 : 0 ≤ q) (h1 : q ≤ 40) (hp : p ≤ 40) : okBlock ⟨0, tailL p q⟩ ∧ okBlock ⟨0, callL p q⟩ ∧ okBlock ⟨0, moreL p q⟩ := by
  have k1 : okIns iW16 := okIns_mk (by omega)
  have k2 : okIns (iT q) := okIns_mk (by omega)
  have k3 : okIns (iC q) := okIns_mk (by omega)
  have k4 : okIns iR := okIns_mk (by omega)
  refine ⟨⟨by simp [tailL, pPre_len]; omega, ?_⟩, ⟨by simp [callL, pPre_len]; omega, ?_⟩, ⟨by simp [moreL, pPre_len]; omega, ?_⟩⟩
  all_goals
    intro i hi
    simp only [tailL, callL, moreL, List.mem_append, List.mem_cons, List.not_mem_nil, or_false] at hi
    rcases hi with h | h
    · exact pre_ok p i h
    · rcases h with rfl | h
      · exact k1
      · first | (rcases h with rfl | rfl <;> assumption) | (subst h; assumption)
theorem depth_is {L : List (S38)} {d : List Int} (h : okBlock ⟨0, L⟩) (hl : 0 < L.length) (hd : depOf L = some d) : code_Depth.f 0 L = some (d, true) := by
  unfold code_Depth.f
  unfold okBlock at h
  rw [if_neg (by omega), if_pos h, hd]
theorem depth_no {L : List (S38)} (h : okBlock ⟨0, L⟩) (hl : 0 < L.length) (hd : depOf L = none) : code_Depth.f 0 L = some ([], false) := by
  unfold code_Depth.f
  unfold okBlock at h
  rw [if_neg (by omega), if_pos h, hd]
theorem tail_depth (p : Nat) (q : Int) (h0 : 0 ≤ q) (h1 : q ≤ 40) (hp : p ≤ 40) : code_Depth.f 0 (tailL p q) = some (if (p : Int) < q then ([], false) else (dPre p ++ [(p : Int), (p : Int)], true)) := by
  by_cases hq : (p : Int) < q
  · rw [if_pos hq, depth_no (lists_ok p q h0 h1 hp).1 (by simp [tailL]) (by rw [tail_dep p q h0, if_pos hq])]
  · rw [if_neg hq, depth_is (lists_ok p q h0 h1 hp).1 (by simp [tailL]) (by rw [tail_dep p q h0, if_neg hq])]
theorem may_pre (p : Nat) (x : Int) : ∀ i ∈ pPre p ++ [iW16], mayIns 1 i x = true := by
  intro i hi
  have e8 : mayIns 1 iW8 x = true := by unfold mayIns; simp [hasP, iW8]; decide +kernel
  have e7 : mayIns 1 iP x = true := by unfold mayIns; simp [hasP, iP]
  have e6 : mayIns 1 iW16 x = true := by unfold mayIns; simp [hasP, iW16]; decide +kernel
  rcases List.mem_append.1 hi with h | h
  · rcases pPre_mem p i h with rfl | rfl
    · exact e8
    · exact e7
  · simp at h; subst h; exact e6
theorem firstBad_app {bk : Int} : ∀ {is : List (S38)} {ds : List Int} {rest : List (S38)} {dr : List Int} {n : Nat}, is.length = ds.length → (∀ i ∈ is, ∀ x, mayIns bk i x = true) → firstBad bk (is ++ rest) (ds ++ dr) n = firstBad bk rest dr (n + is.length)
  | [], [], _, _, _, _, _ => rfl
  | i :: r, x :: ds, rest, dr, n, hl, h => by
    rw [List.cons_append, List.cons_append, firstBad_cons, if_pos (h i (by simp) x), firstBad_app (by simpa using hl) (fun j hj => h j (by simp [hj]))]
    congr 1
    simp; omega
  | [], _ :: _, _, _, _, h, _ => by simp at h
  | _ :: _, [], _, _, _, h, _ => by simp at h
theorem chk_one {L : List (S38)} (h : okBlock ⟨0, L⟩) : code_Check.f [⟨0, L⟩] = some (match blockBad 1 0 ⟨0, L⟩ with | some a => (0, (a : Int), 110) | none => (0, 0, 0)) := by
  rw [check_some _ (by intro b hb; simp at hb; subst hb; exact h)]
  rw [if_neg (by simp)]
  simp only [chkRun]
  rfl
theorem bad_fail {L : List (S38)} (hd : code_Depth.f 0 L = some ([], false)) : blockBad 1 0 ⟨0, L⟩ = some 0 := by
  unfold blockBad; rw [hd]; simp
theorem bad_look {L : List (S38)} {d : List Int} (hd : code_Depth.f 0 L = some (d, true)) (hn : ∀ x ∈ d, 0 ≤ x) : blockBad 1 0 ⟨0, L⟩ = firstBad 1 L d 0 := by
  unfold blockBad; rw [hd]
  simp only
  rw [if_neg]
  rintro (h | h | h | h | h)
  · cases h
  · omega
  · omega
  · exact h.2 rfl
  · have := hn _ (List.contains_iff_mem.1 h); omega
theorem tail_check (p : Nat) (q : Int) (h0 : 0 ≤ q) (h1 : q ≤ 40) (hp : p ≤ 40) : code_Check.f [⟨0, tailL p q⟩] = some (0, if q < p then 2 * (p : Int) + 1 else 0, if (p : Int) = q then 0 else 110) := by
  have hok := (lists_ok p q h0 h1 hp).1
  have hd := tail_depth p q h0 h1 hp
  rw [chk_one hok]
  by_cases hq : (p : Int) < q
  · rw [if_pos hq] at hd
    rw [bad_fail hd, if_neg (by omega), if_neg (by omega)]; rfl
  · rw [if_neg hq] at hd
    rw [bad_look hd (by intro x hx; rcases List.mem_append.1 hx with h | h; exact dPre_nonneg p x h; simp at h; omega)]
    have e : firstBad 1 (tailL p q) (dPre p ++ [(p : Int), (p : Int)]) 0 = if (p : Int) = q then none else some (2 * p + 1) := by
      have := firstBad_app (bk := 1) (is := pPre p ++ [iW16]) (ds := dPre p ++ [(p : Int)]) (rest := [iT q]) (dr := [(p : Int)]) (n := 0) (by simp [pPre_len, dPre_len]) (fun i hi x => may_pre p x i hi)
      rw [show tailL p q = (pPre p ++ [iW16]) ++ [iT q] by simp [tailL], show dPre p ++ [(p : Int), (p : Int)] = (dPre p ++ [(p : Int)]) ++ [(p : Int)] by simp, this, firstBad_cons]
      have hm : mayIns 1 (iT q) (p : Int) = decide ((p : Int) = q) := by
        unfold mayIns
        simp [hasP, iT]
        by_cases hpq : (p : Int) = q
        · simp [hpq]; omega
        · simp [hpq]
      rw [hm]
      by_cases hpq : (p : Int) = q
      · rw [if_pos (by simpa using hpq), if_pos hpq]; rfl
      · rw [if_neg (by simpa using hpq), if_neg hpq]; simp [pPre_len]
    rw [e]
    by_cases hpq : (p : Int) = q
    · rw [if_pos hpq, if_neg (by omega), if_pos hpq]
    · rw [if_neg hpq, if_pos (by omega), if_neg hpq]; simp
theorem call_check (p : Nat) (q : Int) (h0 : 0 ≤ q) (h1 : q ≤ 40) (hp : p ≤ 40) : code_Check.f [⟨0, callL p q⟩] = some (0, if q < p then 2 * (p : Int) + 2 else 0, if (p : Int) = q then 0 else 110) := by
  have hok := (lists_ok p q h0 h1 hp).2.1
  rw [chk_one hok]
  by_cases hq : (p : Int) < q
  · have hd := depth_no hok (by simp [callL]) (by rw [call_dep p q h0, if_pos hq])
    rw [bad_fail hd, if_neg (by omega), if_neg (by omega)]; rfl
  · have hd := depth_is hok (by simp [callL]) (by rw [call_dep p q h0, if_neg hq])
    rw [bad_look hd (by intro x hx; rcases List.mem_append.1 hx with h | h; exact dPre_nonneg p x h; simp at h; omega)]
    have e : firstBad 1 (callL p q) (dPre p ++ [(p : Int), (p : Int), (p : Int) - q]) 0 = if (p : Int) = q then none else some (2 * p + 2) := by
      have hc : ∀ x, mayIns 1 (iC q) x = true := by intro x; unfold mayIns; simp [hasP, iC]; omega
      have := firstBad_app (bk := 1) (is := pPre p ++ [iW16, iC q]) (ds := dPre p ++ [(p : Int), (p : Int)]) (rest := [iR]) (dr := [(p : Int) - q]) (n := 0) (by simp [pPre_len, dPre_len]) (fun i hi x => by
        rcases List.mem_append.1 hi with h | h
        · exact may_pre p x i (List.mem_append_left _ h)
        · simp at h
          rcases h with rfl | rfl
          · exact may_pre p x iW16 (by simp)
          · exact hc x)
      rw [show callL p q = (pPre p ++ [iW16, iC q]) ++ [iR] by simp [callL], show dPre p ++ [(p : Int), (p : Int), (p : Int) - q] = (dPre p ++ [(p : Int), (p : Int)]) ++ [(p : Int) - q] by simp, this, firstBad_cons]
      have hm : mayIns 1 iR ((p : Int) - q) = decide ((p : Int) - q = 0) := by
        unfold mayIns
        simp [hasP, iR]
        by_cases hpq : (p : Int) - q = 0 <;> simp [hpq]
      rw [hm]
      by_cases hpq : (p : Int) = q
      · rw [if_pos (by simp; omega), if_pos hpq]; rfl
      · rw [if_neg (by simp; omega), if_neg hpq]; simp [pPre_len]
    rw [e]
    by_cases hpq : (p : Int) = q
    · rw [if_pos hpq, if_neg (by omega), if_pos hpq]
    · rw [if_neg hpq, if_pos (by omega), if_neg hpq]; simp
theorem more_check (p : Nat) (q : Int) (h0 : 0 ≤ q) (h1 : q ≤ 40) (hp : p ≤ 40) : code_Check.f [⟨0, moreL p q⟩] = some (0, 0, 110) := by
  have hok := (lists_ok p q h0 h1 hp).2.2
  rw [chk_one hok]
  by_cases hq : (p : Int) < q
  · have hd := depth_no hok (by simp [moreL]) (by rw [more_dep p q h0, if_pos hq])
    rw [bad_fail hd]; rfl
  · have hd := depth_is hok (by simp [moreL]) (by rw [more_dep p q h0, if_neg hq])
    have : blockBad 1 0 ⟨0, moreL p q⟩ = some 0 := by
      unfold blockBad; rw [hd]
      simp only
      rw [if_pos (.inr (.inr (.inr (.inr (List.contains_iff_mem.2 (by simp))))))]
    rw [this]; rfl
end Go.Proofs.YtkiamiphmndmcaaDoor.PCodes

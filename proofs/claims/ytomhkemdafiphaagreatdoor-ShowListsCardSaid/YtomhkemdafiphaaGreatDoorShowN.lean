/- Rows of numbers as Pairs of an arena, and their text; each states its conditions. -/
import Derived.Test.YtomhkemdafiphaaGreatDoorShowK
import Derived.Test.YtomhkemdafiphaaGreatDoorShowL3
namespace Go.Proofs.YtomhkemdafiphaaGreatDoor.ShowC
open Go.Proofs.YtomhkemdafiphaaGreatDoor.Word Go Go.RowKit Go.Proofs.YtomhkemdafiphaaGreatDoor.Heap Go.Proofs.YtomhkemdafiphaaGreatDoor.ReadP Go.Proofs.YtomhkemdafiphaaGreatDoor.TreeP Go.Proofs.YtomhkemdafiphaaGreatDoor.ShowP Go.Proofs.YtomhkemdafiphaaGreatDoor.ShowB Go.Proofs.YtomhkemdafiphaaGreatDoor.ShowW
open Go.Proofs.YtomhkemdafiphaaGreatDoor.Ar (Thing IsAr tot kindA lenA getA)
open Go.Lib (itoa)
theorem Env.chg {w w' : World} {B : Nat} {pa pn : Value} {th : List Thing} {nm : List (List UInt8)} (h : Env w B pa pn th nm) (k : Chg [] w w') : Env w' w'.heap.size pa pn th nm := by
  obtain ⟨g, bw, bh, size, h1, h2⟩ := h.ar
  exact ⟨⟨g, bw, bh, size, h1, h2.sub k⟩, h.nam.chg k, h.tab.chg k, Nat.le_refl _, h.thw, h.nms⟩
theorem eq_bytes {a : List UInt8} {b : ByteArray} (h : b = ⟨a.toArray⟩) : (a == b.toList) = true := by rw [h, Go.Proofs.YtomhkemdafiphaaGreatDoor.ReadM.ba_tl]; exact beq_self_eq_true _
theorem cut_le {s : List UInt8} (h : s.length ≤ 120) : cutS s = s := by unfold cutS; rw [if_neg (by omega)]
/-- a number as a word -/
def wV (v : Int) : Int := (v % 18446744073709551616 * 8) % 18446744073709551616
theorem wV_bd (n : Int) : 0 ≤ wV n ∧ wV n < 18446744073709551616 ∧ wV n % 8 = 0 := by
  unfold wV
  omega
theorem wV_int {m : Int} (h : -999 ≤ m ∧ m ≤ 999) : toIntP (wV m) = (m, true) := by
  unfold toIntP wV
  rw [if_pos (by omega)]
  have e : wrap64 (m % 18446744073709551616 * 8 % 18446744073709551616) = m * 8 := by unfold wrap64; omega
  rw [e, show m * 8 / 8 = m by omega, if_neg (by omega), if_neg (by omega)]
theorem odd_none (th : List Thing) (x : Int) (h : x % 8 ≠ 1) : pairP th x = none := by
  have k : kindA th x = 0 := by
    unfold kindA Go.Proofs.YtomhkemdafiphaaGreatDoor.Ar.place
    rw [if_neg (by omega)]
  unfold pairP
  rw [k, if_neg (by omega)]
theorem wV_none (th : List Thing) (n : Int) : pairP th (wV n) = none := odd_none th _ (by have := (wV_bd n).2.2; omega)
theorem wV_text (th : List Thing) (nm : List (List UInt8)) {n : Int} (h : -999 ≤ n ∧ n ≤ 999) : plainP th nm (wV n) = itoa n := by
  unfold plainP
  rw [wV_int h, if_pos rfl]
theorem nil_text (th : List Thing) (nm : List (List UInt8)) : plainP th nm 2 = [40, 41] := by
  have e : toIntP 2 = (0, false) := by decide +kernel
  unfold plainP
  rw [e, if_neg (by simp), if_pos rfl]
/-- a row of numbers as Pairs, of which the last is made first -/
def ptrL : List Int → Int
  | [] => 2
  | _ :: r => 24 * (r.length : Int) + 1
def thL : List Int → List Thing
  | [] => []
  | v :: r => thL r ++ [(1, [wV v, ptrL r])]
theorem tot_thL : ∀ vs : List Int, tot (thL vs) = 3 * vs.length
  | [] => rfl
  | v :: r => by
    rw [thL, Go.Proofs.YtomhkemdafiphaaGreatDoor.Ar.tot_append, tot_thL r]
    simp [tot]
    omega
theorem look_at : ∀ (l : List Thing) (o : Thing) (r : List Thing), Go.Proofs.YtomhkemdafiphaaGreatDoor.Ar.look (l ++ o :: r) (tot l) = some o
  | [], o, r => by simp [Go.Proofs.YtomhkemdafiphaaGreatDoor.Ar.look, tot]
  | p :: l, o, r => by
    rw [List.cons_append]
    unfold Go.Proofs.YtomhkemdafiphaaGreatDoor.Ar.look
    rw [Go.Proofs.YtomhkemdafiphaaGreatDoor.Ar.tot_cons, if_neg (by omega), if_neg (by omega), show p.2.length + 1 + tot l - (p.2.length + 1) = tot l by omega]
    exact look_at l o r
theorem pair_at {th rest : List Thing} {v : Int} {r : List Int} (h : th = thL (v :: r) ++ rest) (hl : r.length ≤ 1000000) : pairP th (ptrL (v :: r)) = some (wV v, ptrL r) := by
  have h2 : Go.Proofs.YtomhkemdafiphaaGreatDoor.Ar.place th (ptrL (v :: r)) = some (1, [wV v, ptrL r]) := by
    have e : ptrL (v :: r) = 24 * (r.length : Int) + 1 := rfl
    unfold Go.Proofs.YtomhkemdafiphaaGreatDoor.Ar.place
    generalize ptrL (v :: r) = x at *
    rw [if_pos (by omega), show (x / 8).toNat = tot (thL r) by rw [tot_thL]; omega, h, thL, List.append_assoc]
    exact look_at _ _ _
  unfold pairP kindA lenA getA
  rw [h2]
  rfl
theorem ptr_bd {r : List Int} (h : r.length ≤ 1000000) : 0 ≤ ptrL r ∧ ptrL r < 18446744073709551616 := by
  cases r with
  | nil => exact ⟨by decide, by decide⟩
  | cons v r => simp only [ptrL, List.length_cons] at h ⊢; omega
theorem th_bd : ∀ {vs : List Int}, vs.length ≤ 1000000 → ∀ o ∈ thL vs, ∀ v ∈ o.2, 0 ≤ v ∧ v < 18446744073709551616
  | [], _, o, ho, _, _ => by cases ho
  | v :: r, h, o, ho, u, hu => by
    simp only [List.length_cons] at h
    rw [thL] at ho
    rcases List.mem_append.1 ho with ho | ho
    · exact th_bd (by omega) o ho u hu
    · have : o = _ := List.mem_singleton.1 ho
      subst this
      have := ptr_bd (r := r) (by omega)
      have := wV_bd v
      simp only [List.mem_cons, List.not_mem_nil, or_false] at hu
      rcases hu with rfl | rfl <;> omega
/-- numbers behind the first -/
def tailT (l : List Int) : List UInt8 := l.flatMap fun v => 32 :: itoa v
theorem tail_cons (v : Int) (r : List Int) : tailT (v :: r) = 32 :: (itoa v ++ tailT r) := by simp [tailT]
/-- numbers, and the bracket -/
def bodyT : List Int → List UInt8
  | [] => [41]
  | v :: r => itoa v ++ (tailT r ++ [41])
def listT (l : List Int) : List UInt8 := 40 :: bodyT l
theorem fw_step (pr : Int → Option (Int × Int)) (pl : Int → List UInt8) (n : Nat) (s : List UInt8) (x : Int) : fullT pr pl (n + 1) s (.word x) = match pr x with
    | none => some (s ++ pl x)
    | some (a, b) => fullT pr pl n (s ++ [40]) (.rest a b) := rfl
theorem fr_step (pr : Int → Option (Int × Int)) (pl : Int → List UInt8) (n : Nat) (s : List UInt8) (a b : Int) : fullT pr pl (n + 1) s (.rest a b) = match fullT pr pl n s (.word a) with
    | none => none
    | some s => match pr b with
      | some (a', b') => fullT pr pl n (s ++ [32]) (.rest a' b')
      | none => some ((if b = 2 then s else s ++ 32 :: 46 :: 32 :: pl b) ++ [41]) := rfl
theorem full_rest {th : List Thing} (nm : List (List UInt8)) : ∀ (r : List Int) (v : Int) (s : List UInt8) (m : Nat) (rest : List Thing), th = thL r ++ rest → r.length + 2 ≤ m → r.length ≤ 1000000 → (∀ u ∈ v :: r, -999 ≤ u ∧ u ≤ 999) →
    fullT (pairP th) (plainP th nm) m s (.rest (wV v) (ptrL r)) = some (s ++ bodyT (v :: r))
  | [], v, s, m + 2, rest, h, hm, _, hb => by
    have hv := hb v (List.mem_cons_self ..)
    rw [fr_step, fw_step, wV_none]
    simp only [wV_text th nm hv]
    rw [show ptrL [] = 2 from rfl, odd_none th 2 (by decide)]
    simp [bodyT, tailT]
  | v' :: r, v, s, m + 2, rest, h, hm, hl, hb => by
    have hv := hb v (List.mem_cons_self ..)
    simp only [List.length_cons] at hm hl
    have hp := pair_at h (by omega)
    have ih := full_rest (th := th) nm r v' (s ++ itoa v ++ [32]) (m + 1) ((1, [wV v', ptrL r]) :: rest) (by rw [h, thL, List.append_assoc]; rfl) (by omega) (by omega) (fun u hu => hb u (List.mem_cons_of_mem _ hu))
    rw [fr_step, fw_step, wV_none]
    simp only [wV_text th nm hv]
    rw [hp]
    simp only
    rw [ih]
    simp [bodyT, tail_cons]
theorem full_list {th rest : List Thing} (nm : List (List UInt8)) (vs : List Int) (h : th = thL vs ++ rest) (hl : vs.length ≤ 1000000) (hb : ∀ u ∈ vs, -999 ≤ u ∧ u ≤ 999) :
    fullT (pairP th) (plainP th nm) (vs.length + 3) [] (.word (ptrL vs)) = some (listT vs) := by
  cases vs with
  | nil =>
    simp only [fullT, ptrL, odd_none th 2 (by decide), nil_text]
    rfl
  | cons v r =>
    simp only [List.length_cons] at hl
    rw [fullT, pair_at h (by omega)]
    simp only
    rw [full_rest nm r v _ _ ((1, [wV v, ptrL r]) :: rest) (by rw [h, thL, List.append_assoc]; rfl) (by simp only [List.length_cons]; omega) (by omega) hb]
    rfl
theorem word_list {th : List Thing} (nm : List (List UInt8)) (vs : List Int) (h : th = thL vs) (hl : vs.length ≤ 1000000) (hb : ∀ u ∈ vs, -999 ≤ u ∧ u ≤ 999) :
    wordX (pairP th) (plainP th nm) (ptrL vs) = cutS (listT vs) :=
  word_full _ _ _ _ _ (full_list nm vs (rest := []) (by rw [h, List.append_nil]) hl hb)
theorem itoa_3 {v : Int} (h : -999 ≤ v ∧ v ≤ 999) : (itoa v).length ≤ 4 := by
  unfold itoa
  split
  · have := dec_len 3 v.natAbs (by decide) (by omega)
    simp only [List.length_cons]; omega
  · have := dec_len 3 v.toNat (by decide) (by omega)
    omega
theorem tail_len {l : List Int} (h : ∀ u ∈ l, -999 ≤ u ∧ u ≤ 999) : (tailT l).length ≤ 5 * l.length := by
  induction l with
  | nil => exact Nat.zero_le _
  | cons v r ih =>
    have h1 := itoa_3 (h v (List.mem_cons_self ..))
    have h2 := ih (fun u hu => h u (List.mem_cons_of_mem _ hu))
    rw [tail_cons]
    simp only [List.length_cons, List.length_append]
    omega
theorem body_len {l : List Int} (h : ∀ u ∈ l, -999 ≤ u ∧ u ≤ 999) : (bodyT l).length ≤ 5 * l.length + 1 := by
  cases l with
  | nil => exact Nat.le_refl _
  | cons v r =>
    have h1 := itoa_3 (h v (List.mem_cons_self ..))
    have h2 := tail_len (fun u hu => h u (List.mem_cons_of_mem _ hu))
    simp only [bodyT, List.length_cons, List.length_append, List.length_nil]
    omega
end Go.Proofs.YtomhkemdafiphaaGreatDoor.ShowC

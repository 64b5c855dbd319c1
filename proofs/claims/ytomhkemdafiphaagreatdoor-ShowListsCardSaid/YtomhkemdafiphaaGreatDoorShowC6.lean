/- Layer 7 (show) in plain lists: a word's text, and how it is cut; each states its conditions. -/
import Derived.Lib.ItoaLen
import Derived.Test.YtomhkemdafiphaaGreatDoorShowC1
import Derived.Test.YtomhkemdafiphaaGreatDoorArenaC6
import Derived.WalkLawsBesides
import Derived.Recover
import Derived.Defers
import Derived.Deep.LoopGhost
namespace Go.Proofs.YtomhkemdafiphaaGreatDoor.ShowW
open Go.Lib (itoa)
/-- what is written next: a word; or a pair's words, behind its bracket or a blank -/
inductive Job where
  | word (x : Int)
  | rest (a b : Int)
def putE (s t : List UInt8) : Except (List UInt8) (List UInt8) := if 120 < (s ++ t).length then .error (s ++ t) else .ok (s ++ t)
variable (pr : Int → Option (Int × Int)) (pl : Int → List UInt8)
/-- a word is written, till there is too much -/
def runE : Nat → List UInt8 → Job → Except (List UInt8) (List UInt8)
  | 0, s, _ => .error s
  | n + 1, s, .word x => match pr x with
    | none => putE s (pl x)
    | some (a, b) => match putE s [40] with
      | .error e => .error e
      | .ok s => runE n s (.rest a b)
  | n + 1, s, .rest a b => match runE n s (.word a) with
    | .error e => .error e
    | .ok s => match pr b with
      | some (a', b') => match putE s [32] with
        | .error e => .error e
        | .ok s => runE n s (.rest a' b')
      | none => match (if b = 2 then .ok s else putE s (32 :: 46 :: 32 :: pl b)) with
        | .error e => .error e
        | .ok s => putE s [41]
/-- the document's way -/
def textR : Nat → List UInt8 → Job → List UInt8
  | 0, s, _ => s
  | n + 1, s, .word x => if 120 < s.length then s else match pr x with
    | none => s ++ pl x
    | some (a, b) => textR n (s ++ [40]) (.rest a b)
  | n + 1, s, .rest a b => if 120 < s.length then s else match pr b with
    | none => (if b = 2 then textR n s (.word a) else textR n s (.word a) ++ 32 :: 46 :: 32 :: pl b) ++ [41]
    | some (a', b') => textR n (textR n s (.word a) ++ [32]) (.rest a' b')
/-- all of a word's text -/
def fullT : Nat → List UInt8 → Job → Option (List UInt8)
  | 0, _, _ => none
  | n + 1, s, .word x => match pr x with
    | none => some (s ++ pl x)
    | some (a, b) => fullT n (s ++ [40]) (.rest a b)
  | n + 1, s, .rest a b => match fullT n s (.word a) with
    | none => none
    | some s => match pr b with
      | some (a', b') => fullT n (s ++ [32]) (.rest a' b')
      | none => some ((if b = 2 then s else s ++ 32 :: 46 :: 32 :: pl b) ++ [41])
/-- fuel that is enough -/
def need (s : List UInt8) : Job → Nat
  | .word _ => 2 * (121 - s.length) + 1
  | .rest _ _ => 2 * (121 - s.length) + 2
theorem put_cases (s t : List UInt8) : (putE s t = .ok (s ++ t) ∧ (s ++ t).length ≤ 120) ∨ (putE s t = .error (s ++ t) ∧ 120 < (s ++ t).length) := by
  unfold putE
  by_cases h : 120 < (s ++ t).length
  · rw [if_pos h]; exact .inr ⟨rfl, h⟩
  · rw [if_neg h]; exact .inl ⟨rfl, by omega⟩
theorem text_grow : ∀ (n : Nat) (s : List UInt8) (j : Job), s <+: textR pr pl n s j
  | 0, s, _ => List.prefix_refl s
  | n + 1, s, .word x => by
    unfold textR
    split
    · exact List.prefix_refl s
    · split
      · exact List.prefix_append ..
      · exact (List.prefix_append s [40]).trans (text_grow n _ _)
  | n + 1, s, .rest a b => by
    unfold textR
    split
    · exact List.prefix_refl s
    · have h1 := text_grow n s (.word a)
      split
      · split
        · exact h1.trans (List.prefix_append ..)
        · exact h1.trans ((List.prefix_append ..).trans (List.prefix_append ..))
      · exact h1.trans ((List.prefix_append ..).trans (text_grow n _ _))
/-- what is written, or how it is stopped, beside the document's -/
theorem run_text : ∀ (n : Nat) (s : List UInt8) (j : Job), s.length ≤ 120 → need s j ≤ n → match runE pr pl n s j with
    | .ok t => textR pr pl n s j = t ∧ t.length ≤ 120 ∧ s.length ≤ t.length
    | .error t => 120 < t.length ∧ t <+: textR pr pl n s j
  | 0, s, j, hs, hn => by cases j <;> simp only [need] at hn <;> omega
  | n + 1, s, .word x, hs, hn => by
    simp only [need] at hn
    unfold runE textR
    rw [if_neg (by omega)]
    cases hp : pr x with
    | none =>
      simp only
      rcases put_cases s (pl x) with ⟨h1, h2⟩ | ⟨h1, h2⟩
      · rw [h1]; exact ⟨rfl, h2, by simp⟩
      · rw [h1]; exact ⟨h2, List.prefix_refl _⟩
    | some ab =>
      obtain ⟨a, b⟩ := ab
      simp only
      rcases put_cases s [40] with ⟨h1, h2⟩ | ⟨h1, h2⟩
      · rw [h1]
        have h3 : (s ++ [40]).length = s.length + 1 := by simp
        have ih := run_text n (s ++ [40]) (.rest a b) h2 (by simp only [need]; omega)
        simp only
        cases hr : runE pr pl n (s ++ [40]) (.rest a b) with
        | ok t => rw [hr] at ih; exact ⟨ih.1, ih.2.1, by have := ih.2.2; omega⟩
        | error t => rw [hr] at ih; exact ih
      · rw [h1]; exact ⟨h2, text_grow pr pl _ _ _⟩
  | n + 1, s, .rest a b, hs, hn => by
    simp only [need] at hn
    have ih := run_text n s (.word a) hs (by simp only [need]; omega)
    unfold runE textR
    rw [if_neg (by omega)]
    cases hr : runE pr pl n s (.word a) with
    | error t =>
      rw [hr] at ih
      obtain ⟨h1, h2⟩ := ih
      simp only
      refine ⟨h1, ?_⟩
      split
      · split
        · exact h2.trans (List.prefix_append ..)
        · exact h2.trans ((List.prefix_append ..).trans (List.prefix_append ..))
      · exact h2.trans ((List.prefix_append ..).trans (text_grow pr pl n _ _))
    | ok t =>
      rw [hr] at ih
      obtain ⟨h1, h2, h2'⟩ := ih
      simp only
      rw [h1]
      cases hp : pr b with
      | some ab =>
        obtain ⟨a', b'⟩ := ab
        simp only
        rcases put_cases t [32] with ⟨h3, h4⟩ | ⟨h3, h4⟩
        · rw [h3]
          have h5 : (t ++ [32]).length = t.length + 1 := by simp
          have ih2 := run_text n (t ++ [32]) (.rest a' b') h4 (by simp only [need]; omega)
          simp only
          cases hr2 : runE pr pl n (t ++ [32]) (.rest a' b') with
          | ok u => rw [hr2] at ih2; exact ⟨ih2.1, ih2.2.1, by have := ih2.2.2; omega⟩
          | error u => rw [hr2] at ih2; exact ih2
        · rw [h3]; exact ⟨h4, text_grow pr pl _ _ _⟩
      | none =>
        simp only
        by_cases hb : b = 2
        · rw [if_pos hb, if_pos hb]
          simp only
          rcases put_cases t [41] with ⟨h3, h4⟩ | ⟨h3, h4⟩
          · rw [h3]; exact ⟨rfl, h4, by simp; omega⟩
          · rw [h3]; exact ⟨h4, List.prefix_refl _⟩
        · rw [if_neg hb, if_neg hb]
          rcases put_cases t (32 :: 46 :: 32 :: pl b) with ⟨h3, h4⟩ | ⟨h3, h4⟩
          · rw [h3]
            simp only
            rcases put_cases (t ++ 32 :: 46 :: 32 :: pl b) [41] with ⟨h5, h6⟩ | ⟨h5, h6⟩
            · rw [h5]; exact ⟨rfl, h6, by simp; omega⟩
            · rw [h5]; exact ⟨h6, List.prefix_refl _⟩
          · rw [h3]; exact ⟨h4, List.prefix_append ..⟩
theorem full_grow : ∀ (n : Nat) (s : List UInt8) (j : Job) (F : List UInt8), fullT pr pl n s j = some F → s <+: F
  | 0, s, _, F, h => by cases h
  | n + 1, s, .word x, F, h => by
    unfold fullT at h
    split at h
    · injection h with h; rw [← h]; exact List.prefix_append ..
    · exact (List.prefix_append s [40]).trans (full_grow n _ _ _ h)
  | n + 1, s, .rest a b, F, h => by
    unfold fullT at h
    cases hr : fullT pr pl n s (.word a) with
    | none => rw [hr] at h; cases h
    | some t =>
      rw [hr] at h
      have h1 := full_grow n _ _ _ hr
      simp only at h
      split at h
      · exact h1.trans ((List.prefix_append ..).trans (full_grow n _ _ _ h))
      · injection h with h
        rw [← h]
        split
        · exact h1.trans (List.prefix_append ..)
        · exact h1.trans ((List.prefix_append ..).trans (List.prefix_append ..))
/-- what is written, beside all of the text -/
theorem run_full : ∀ (m n : Nat) (s : List UInt8) (j : Job) (F : List UInt8), s.length ≤ 120 → need s j ≤ n → fullT pr pl m s j = some F → match runE pr pl n s j with
    | .ok t => t = F ∧ F.length ≤ 120
    | .error t => 120 < t.length ∧ t <+: F
  | 0, _, s, j, F, _, _, h => by cases h
  | _, 0, s, j, _, hs, hn, _ => by cases j <;> simp only [need] at hn <;> omega
  | m + 1, n + 1, s, .word x, F, hs, hn, h => by
    simp only [need] at hn
    unfold fullT at h
    unfold runE
    cases hp : pr x with
    | none =>
      rw [hp] at h
      injection h with h
      rw [← h]
      simp only
      rcases put_cases s (pl x) with ⟨h1, h2⟩ | ⟨h1, h2⟩
      · rw [h1]; exact ⟨rfl, h2⟩
      · rw [h1]; exact ⟨h2, List.prefix_refl _⟩
    | some ab =>
      obtain ⟨a, b⟩ := ab
      rw [hp] at h
      simp only at h ⊢
      rcases put_cases s [40] with ⟨h1, h2⟩ | ⟨h1, h2⟩
      · rw [h1]
        have h3 : (s ++ [40]).length = s.length + 1 := by simp
        exact run_full m n (s ++ [40]) (.rest a b) F h2 (by simp only [need]; omega) h
      · rw [h1]; exact ⟨h2, full_grow pr pl _ _ _ _ h⟩
  | m + 1, n + 1, s, .rest a b, F, hs, hn, h => by
    simp only [need] at hn
    unfold fullT at h
    cases hf : fullT pr pl m s (.word a) with
    | none => rw [hf] at h; cases h
    | some t =>
      rw [hf] at h
      simp only at h
      have ih := run_full m n s (.word a) t hs (by simp only [need]; omega) hf
      have hg := (full_grow pr pl _ _ _ _ hf).length_le
      have hF : t <+: F := by
        cases hp : pr b with
        | some ab =>
          obtain ⟨a', b'⟩ := ab
          rw [hp] at h
          exact (List.prefix_append ..).trans (full_grow pr pl _ _ _ _ h)
        | none =>
          rw [hp] at h
          injection h with h
          rw [← h]
          split
          · exact List.prefix_append ..
          · exact (List.prefix_append ..).trans (List.prefix_append ..)
      unfold runE
      cases hr : runE pr pl n s (.word a) with
      | error u =>
        rw [hr] at ih
        exact ⟨ih.1, ih.2.trans hF⟩
      | ok u =>
        rw [hr] at ih
        obtain ⟨rfl, h2⟩ := ih
        simp only
        cases hp : pr b with
        | some ab =>
          obtain ⟨a', b'⟩ := ab
          rw [hp] at h
          simp only at h ⊢
          rcases put_cases u [32] with ⟨h3, h4⟩ | ⟨h3, h4⟩
          · rw [h3]
            have h5 : (u ++ [32]).length = u.length + 1 := by simp
            exact run_full m n (u ++ [32]) (.rest a' b') F h4 (by simp only [need]; omega) h
          · rw [h3]; exact ⟨h4, full_grow pr pl _ _ _ _ h⟩
        | none =>
          rw [hp] at h
          injection h with h
          rw [← h]
          simp only
          by_cases hb : b = 2
          · rw [if_pos hb, if_pos hb]
            simp only
            rcases put_cases u [41] with ⟨h3, h4⟩ | ⟨h3, h4⟩
            · rw [h3]; exact ⟨rfl, h4⟩
            · rw [h3]; exact ⟨h4, List.prefix_refl _⟩
          · rw [if_neg hb, if_neg hb]
            rcases put_cases u (32 :: 46 :: 32 :: pl b) with ⟨h3, h4⟩ | ⟨h3, h4⟩
            · rw [h3]
              simp only
              rcases put_cases (u ++ 32 :: 46 :: 32 :: pl b) [41] with ⟨h5, h6⟩ | ⟨h5, h6⟩
              · rw [h5]; exact ⟨rfl, h6⟩
              · rw [h5]; exact ⟨h6, List.prefix_refl _⟩
            · rw [h3]; exact ⟨h4, List.prefix_append ..⟩
/-- a text that is cut where it is too long -/
def cutS (s : List UInt8) : List UInt8 := if 120 < s.length then s.take 117 ++ [46, 46, 46] else s
def outE : Except (List UInt8) (List UInt8) → List UInt8
  | .ok t => t
  | .error t => t
theorem cut_prefix {a b : List UInt8} (h : a <+: b) (ha : 120 < a.length) : cutS a = cutS b := by
  obtain ⟨c, rfl⟩ := h
  unfold cutS
  rw [if_pos ha, if_pos (by rw [List.length_append]; omega), List.take_append_of_le_length (by omega)]
/-- a word's text -/
def wordX (pr : Int → Option (Int × Int)) (pl : Int → List UInt8) (x : Int) : List UInt8 := cutS (outE (runE pr pl 300 [] (.word x)))
theorem word_text (pr : Int → Option (Int × Int)) (pl : Int → List UInt8) (x : Int) : wordX pr pl x = cutS (textR pr pl 300 [] (.word x)) := by
  have h := run_text pr pl 300 [] (.word x) (by simp) (by simp [need])
  unfold wordX
  cases hr : runE pr pl 300 [] (.word x) with
  | ok t => rw [hr] at h; rw [h.1]; rfl
  | error t => rw [hr] at h; exact cut_prefix h.2 h.1
theorem word_full (pr : Int → Option (Int × Int)) (pl : Int → List UInt8) (x : Int) (m : Nat) (F : List UInt8) (hF : fullT pr pl m [] (.word x) = some F) : wordX pr pl x = cutS F := by
  have h := run_full pr pl m 300 [] (.word x) F (by simp) (by simp [need]) hF
  unfold wordX
  cases hr : runE pr pl 300 [] (.word x) with
  | ok t => rw [hr] at h; rw [h.1]; rfl
  | error t => rw [hr] at h; exact cut_prefix h.2 h.1
end Go.Proofs.YtomhkemdafiphaaGreatDoor.ShowW
/- Contracts of the writer of words of layer 7 (show); each states its conditions. -/
namespace Go.Proofs.YtomhkemdafiphaaGreatDoor.ShowC
open Go.Proofs.YtomhkemdafiphaaGreatDoor.Word Go Go.RowKit Go.Proofs.YtomhkemdafiphaaGreatDoor.Heap Go.Proofs.YtomhkemdafiphaaGreatDoor.ReadP Go.Proofs.YtomhkemdafiphaaGreatDoor.TreeP Go.Proofs.YtomhkemdafiphaaGreatDoor.ShowP Go.Proofs.YtomhkemdafiphaaGreatDoor.ShowB Go.Proofs.YtomhkemdafiphaaGreatDoor.ShowW
open Go.Proofs.YtomhkemdafiphaaGreatDoor.ReadM (RI RN nodeC intOf6)
open Go.Lib (itoa byteCells)
def fullV : List PanicEntry := [{ v := .iface 126 (.agg #[]), recovered := false }]
/-- what a writing call ends with -/
def wrE (x : Except (List UInt8) (List UInt8)) : Ending := match x with
  | .ok _ => .returned (.tuple #[])
  | .error _ => .panicked fullV
set_option maxHeartbeats 4000000 in
set_option maxRecDepth 100000 in
theorem put_calls {w : World} {B b : Nat} {T : TypeId} {rest : List Value} {t : List UInt8} (h : IsB w B b T rest t) (ht : t.length ≤ 120) (s : List UInt8) (hs : s.length ≤ 1000000) :
    Calls Tryz.prog 66 #[.pointer (some ⟨b, 0, none⟩), .string ⟨s.toArray⟩] w fun e w' => e = wrE (putE t s) ∧ BAt w' B b T rest (.pointer (some ⟨b, 0, none⟩)) (t ++ s) ∧ Fr B b w w' := by
  have WC := Lib.hid (writeS_calls h ⟨s.toArray⟩ (by show t.length + s.toArray.size ≤ _; simp; omega))
  have hl0 : (t ++ s).length ≤ 2000000 := by rw [List.length_append]; omega
  clear h
  by_cases hf : 120 < (t ++ s).length
  · have c1 : decide ((120 : Int) < (t.length : Int) + (s.length : Int)) = true := decide_eq_true (by rw [List.length_append] at hf; omega)
    have c1' : decide (120 < (t ++ s).length) = true := decide_eq_true hf
    have he : wrE (putE t s) = .panicked fullV := by unfold putE; rw [if_pos hf]; rfl
    have HE := Lib.hid he
    clear he hf
    go_enter Tryz.func66, Tryz.ntmps66
    go_wp2_with fail
    refine WC.out.mono ?_
    rintro e w1 ⟨rfl, hA, hS⟩
    have hA' : BAt w1 B b T rest (.pointer (some ⟨b, 0, none⟩)) (t ++ s) := by simpa using hA
    have LC := Lib.hid (len_calls hA')
    have HA := Lib.hid hA'
    have HS := Lib.hid hS
    clear hA hS hA'
    go_wp2_with fail
    refine LC.out.mono ?_
    rintro e w2 ⟨rfl, rfl⟩
    go_wp2_with fail
    exact ⟨rfl, HE.out.symm, HA.out, HS.out⟩
  · have c1 : decide ((120 : Int) < (t.length : Int) + (s.length : Int)) = false := decide_eq_false (by rw [List.length_append] at hf; omega)
    have c1' : decide (120 < (t ++ s).length) = false := decide_eq_false hf
    have he : wrE (putE t s) = .returned (.tuple #[]) := by unfold putE; rw [if_neg hf]; rfl
    have HE := Lib.hid he
    clear he hf
    go_enter Tryz.func66, Tryz.ntmps66
    go_wp2_with fail
    refine WC.out.mono ?_
    rintro e w1 ⟨rfl, hA, hS⟩
    have hA' : BAt w1 B b T rest (.pointer (some ⟨b, 0, none⟩)) (t ++ s) := by simpa using hA
    have LC := Lib.hid (len_calls hA')
    have HA := Lib.hid hA'
    have HS := Lib.hid hS
    clear hA hS hA'
    go_wp2_with fail
    refine LC.out.mono ?_
    rintro e w2 ⟨rfl, rfl⟩
    go_wp2_with fail
    go_end0
    exact ⟨HE.out.symm, HA.out, HS.out⟩
set_option maxHeartbeats 2000000 in
theorem toint_calls (x : Int) (w : World) (h0 : 0 ≤ x) (h8 : x < 18446744073709551616) :
    Calls Tryz.prog 90 #[.int .u64 x] w fun e w' => e = .returned (.tuple #[.int .i64 (toIntP x).1, .bool (toIntP x).2]) ∧ w = w' := by
  have e1 : Go.bits .and .u64 x 7 = x % 8 := u64_and7 x h0 h8
  by_cases hm : x % 8 = 0
  · have e2 := e1
    rw [hm] at e2
    by_cases h1 : wrap64 x / 8 ≤ -1099511627776
    · have t1 : decide (wrap64 x / 8 ≤ -1099511627776) = true := by simpa using h1
      have ht : toIntP x = (0, false) := by unfold toIntP; rw [if_pos hm, if_pos h1]
      rw [ht]; clear ht hm h0 h8 e1
      go_enter Tryz.func90, Tryz.ntmps90
      go_wp2_with fail
      go_ret2
      exact ⟨rfl, rfl⟩
    · have t1 : decide (wrap64 x / 8 ≤ -1099511627776) = false := by simpa using h1
      by_cases h2 : 1099511627776 ≤ wrap64 x / 8
      · have t2 : decide (1099511627776 ≤ wrap64 x / 8) = true := by simpa using h2
        have ht : toIntP x = (0, false) := by unfold toIntP; rw [if_pos hm, if_neg h1, if_pos h2]
        rw [ht]; clear ht hm h0 h8 h1 e1
        go_enter Tryz.func90, Tryz.ntmps90
        go_wp2_with fail
        go_ret2
        exact ⟨rfl, rfl⟩
      · have t2 : decide (1099511627776 ≤ wrap64 x / 8) = false := by simpa using h2
        have ht : toIntP x = (wrap64 x / 8, true) := by unfold toIntP; rw [if_pos hm, if_neg h1, if_neg h2]
        rw [ht]; clear ht hm h0 h8 h1 h2 e1
        go_enter Tryz.func90, Tryz.ntmps90
        go_wp2_with fail
        go_ret2
        exact ⟨rfl, rfl⟩
  · have t0 : (x % 8 == 0) = false := by simpa using hm
    have t0' : (x % 8 != 0) = true := by simpa using hm
    have ht : toIntP x = (0, false) := by unfold toIntP; rw [if_neg hm]
    rw [ht]; clear ht hm h0 h8
    go_enter Tryz.func90, Tryz.ntmps90
    go_wp2_with fail
    go_ret2
    exact ⟨rfl, rfl⟩
/-- a slice that reads as texts -/
def RS (w : World) (v : Value) (l : List (List UInt8)) : Prop := ∃ A c, v = .slice A l.length c ∧ l.length ≤ c ∧ (0 < l.length → ∃ b o, A = some ⟨b, o, none⟩ ∧ ∀ j x, l[j]? = some x → w.cell? ⟨b, o + j, none⟩ = some (.string ⟨x.toArray⟩))
theorem RS.chg {w w' : World} {v : Value} {l : List (List UInt8)} (h : RS w v l) (k : Chg [] w w') : RS w' v l := by
  obtain ⟨A, c, rfl, h2, h3⟩ := h
  exact ⟨A, c, rfl, h2, fun hp => by
    obtain ⟨b, o, h4, h5⟩ := h3 hp
    subst h4
    exact ⟨b, o, rfl, fun j x hj => k.cell (h5 j x hj) (by simp)⟩⟩
/-- names in memory: none; or their texts -/
def NmAt (w : World) (p : Value) (l : List (List UInt8)) : Prop := (p = .pointer none ∧ l = []) ∨ ∃ g v m, p = .pointer (some ⟨g, 0, none⟩) ∧ w.heap[g]? = some (.cells #[v, m] 106 (0, 0)) ∧ RS w v l
theorem NmAt.chg {w w' : World} {p : Value} {l : List (List UInt8)} (h : NmAt w p l) (k : Chg [] w w') : NmAt w' p l := by
  rcases h with h | ⟨g, v, m, rfl, h1, h2⟩
  · exact .inl h
  · exact .inr ⟨g, v, m, rfl, k.at h1 (by simp), h2.chg k⟩
theorem nlen_calls {w : World} {p : Value} {l : List (List UInt8)} (h : NmAt w p l) :
    Calls Tryz.prog 108 #[p] w fun e w' => e = .returned (.int .i64 l.length) ∧ w = w' := by
  rcases h with ⟨rfl, rfl⟩ | ⟨g, v, m, rfl, h1, A, c, rfl, h2, h3⟩
  · go_enter Tryz.func108, Tryz.ntmps108
    go_wp2_with fail
    go_ret
    exact ⟨rfl, rfl⟩
  · have c0 := blk_cell h1 0
    simp at c0
    clear h1 h2 h3
    go_enter Tryz.func108, Tryz.ntmps108
    go_wp2_with fail
    go_ret
    exact ⟨rfl, rfl⟩
/-- what Text answers -/
def textN (l : List (List UInt8)) (i : Int) : Option (List UInt8) := if 0 ≤ i then l[i.toNat]? else none
set_option maxHeartbeats 2000000 in
theorem ntext_calls {w : World} {p : Value} {l : List (List UInt8)} (h : NmAt w p l) (i : Int) :
    Calls Tryz.prog 92 #[p, .int .i64 i] w fun e w' => e = .returned (.tuple #[.string ⟨((textN l i).getD []).toArray⟩, .bool (textN l i).isSome]) ∧ w = w' := by
  have NC := Lib.hid (nlen_calls h)
  by_cases hi : i < 0
  · have c0 : decide (i < 0) = true := decide_eq_true hi
    have ht : textN l i = none := by unfold textN; rw [if_neg (by omega)]
    have HT := Lib.hid ht
    clear ht hi h
    go_enter Tryz.func92, Tryz.ntmps92
    go_wp2_with fail
    go_ret2
    rw [HT.out]
    exact ⟨rfl, rfl⟩
  · obtain ⟨k, rfl⟩ : ∃ k : Nat, i = (k : Int) := ⟨i.toNat, by omega⟩
    have c0 : decide ((k : Int) < 0) = false := decide_eq_false hi
    by_cases hk : k < l.length
    · have c1 : decide ((l.length : Int) ≤ (k : Int)) = false := decide_eq_false (by omega)
      have c1' : decide (l.length ≤ k) = false := decide_eq_false (by omega)
      obtain ⟨x, hx⟩ : ∃ x, l[k]? = some x := ⟨_, List.getElem?_eq_getElem hk⟩
      have ht : textN l (k : Int) = some x := by unfold textN; rw [if_pos (by omega), Int.toNat_natCast, hx]
      have HT := Lib.hid ht
      rcases h with ⟨rfl, rfl⟩ | ⟨g, v, m, rfl, h1, A, c, rfl, h2, h3⟩
      · simp at hk
      · have b0 := blk_cell h1 0
        simp at b0
        obtain ⟨b, o, rfl, h4⟩ := h3 (by omega)
        have q0 := h4 k x hx
        have p0 : (0 : Int) ≤ (k : Int) := by omega
        have p1 : (k : Int) < (l.length : Int) := by omega
        clear h1 h2 h3 h4 hi ht hx
        go_enter Tryz.func92, Tryz.ntmps92
        go_wp2_with fail
        refine NC.out.mono ?_
        rintro e w1 ⟨rfl, rfl⟩
        go_wp2_with fail
        go_ret2
        rw [HT.out]
        exact ⟨rfl, rfl⟩
    · have c1 : decide ((l.length : Int) ≤ (k : Int)) = true := decide_eq_true (by omega)
      have c1' : decide (l.length ≤ k) = true := decide_eq_true (by omega)
      have ht : textN l (k : Int) = none := by unfold textN; rw [if_pos (by omega), Int.toNat_natCast, List.getElem?_eq_none (by omega)]
      have HT := Lib.hid ht
      clear h hi ht
      go_enter Tryz.func92, Tryz.ntmps92
      go_wp2_with fail
      refine NC.out.mono ?_
      rintro e w1 ⟨rfl, rfl⟩
      go_wp2_with fail
      go_ret2
      rw [HT.out]
      exact ⟨rfl, rfl⟩
end Go.Proofs.YtomhkemdafiphaaGreatDoor.ShowC
/- Contracts of pair and plain of the writer of words; each states its conditions. -/
namespace Go.Proofs.YtomhkemdafiphaaGreatDoor.ShowC
open Go.Proofs.YtomhkemdafiphaaGreatDoor.Word Go Go.RowKit Go.Proofs.YtomhkemdafiphaaGreatDoor.Heap Go.Proofs.YtomhkemdafiphaaGreatDoor.ReadP Go.Proofs.YtomhkemdafiphaaGreatDoor.TreeP Go.Proofs.YtomhkemdafiphaaGreatDoor.ShowP Go.Proofs.YtomhkemdafiphaaGreatDoor.ShowB Go.Proofs.YtomhkemdafiphaaGreatDoor.ShowW
open Go.Proofs.YtomhkemdafiphaaGreatDoor.ReadM (RI RN nodeC intOf6)
open Go.Proofs.YtomhkemdafiphaaGreatDoor.Ar (Thing IsAr kindA lenA getA kind_calls get_calls)
open Go.Lib (itoa byteCells)
/-- where words are written: an arena, names, and the table for numbers -/
structure Env (w0 : World) (B : Nat) (pa pn : Value) (th : List Thing) (nm : List (List UInt8)) : Prop where
  ar : ∃ ga bw bh size, pa = .pointer (some ⟨ga, 0, none⟩) ∧ IsAr w0 ga bw bh size th
  nam : NmAt w0 pn nm
  tab : Tab w0
  hB : w0.heap.size ≤ B
  thw : ∀ o ∈ th, ∀ v ∈ o.2, 0 ≤ v ∧ v < 18446744073709551616
  nms : ∀ s ∈ nm, s.length ≤ 1000
def pairP (th : List Thing) (x : Int) : Option (Int × Int) := if kindA th x = 1 ∧ lenA th x = 2 then some ((getA th x 0).1, (getA th x 1).1) else none
def pairE (x : Option (Int × Int)) : Ending := match x with
  | none => .returned (.tuple #[.int .u64 0, .int .u64 0, .bool false])
  | some (a, b) => .returned (.tuple #[.int .u64 a, .int .u64 b, .bool true])
def plainP (th : List Thing) (nm : List (List UInt8)) (x : Int) : List UInt8 :=
  if (toIntP x).2 = true then itoa (toIntP x).1
  else if x = 2 then [40, 41] else if x = 18 then [35, 116] else if x = 10 then [35, 102] else if x = 26 then [35, 117]
  else if (toP 3 x).2 = true then (match textN nm (toP 3 x).1 with | some s => s | none => 35 :: 110 :: itoa (toP 3 x).1)
  else if (toP 4 x).2 = true then 35 :: 104 :: itoa (toP 4 x).1
  else if 0 < kindA th x then 35 :: itoa (kindA th x) else [35, 63]
theorem cat_bytes (a b : List UInt8) : (⟨a.toArray⟩ : ByteArray) ++ ⟨b.toArray⟩ = ⟨(a ++ b).toArray⟩ := by
  apply ByteArray.ext
  simp
theorem isb_cells {w : World} {B b : Nat} {T : TypeId} {pa pn : Value} {t : List UInt8} (h : IsB w B b T [pa, pn] t) : w.cell? ⟨b, 2, none⟩ = some pa ∧ w.cell? ⟨b, 3, none⟩ = some pn := by
  obtain ⟨p, h⟩ := h.get
  obtain ⟨v, hb, _⟩ := h.blk
  have c2 := blk_cell hb 2
  have c3 := blk_cell hb 3
  simp at c2 c3
  exact ⟨c2, c3⟩
set_option maxHeartbeats 4000000 in
set_option maxRecDepth 100000 in
theorem pair_calls {w0 w : World} {B b : Nat} {pa pn : Value} {th : List Thing} {nm : List (List UInt8)} {t : List UInt8} (E : Env w0 B pa pn th nm) (hold : Chg [] w0 w) (h : IsB w B b 98 [pa, pn] t) (x : Int) (h0 : 0 ≤ x) (h8 : x < 18446744073709551616) :
    Calls Tryz.prog 65 #[.pointer (some ⟨b, 0, none⟩), .int .u64 x] w fun e w' => e = pairE (pairP th x) ∧ w = w' := by
  obtain ⟨ga, bw, bh, size, rfl, hA0⟩ := E.ar
  have hA := hA0.sub hold
  obtain ⟨c2, c3⟩ := isb_cells h
  have KC := Lib.hid (kind_calls hA x h0 h8)
  have LC := Lib.hid (Go.Proofs.YtomhkemdafiphaaGreatDoor.Ar.len_calls hA x h0 h8)
  have G0 := Lib.hid (get_calls hA x 0 h0 h8)
  have G1 := Lib.hid (get_calls hA x 1 h0 h8)
  have hans : pairP th x = if kindA th x = 1 ∧ lenA th x = 2 then some ((getA th x 0).1, (getA th x 1).1) else none := rfl
  generalize kindA th x = kd at *
  generalize lenA th x = ln at *
  generalize getA th x 0 = a at *
  generalize getA th x 1 = b' at *
  have HANS := Lib.hid hans
  clear h hA hA0 hold E hans
  by_cases h1 : kd = 1
  · subst h1
    by_cases h2 : ln = 2
    · subst h2
      have hr := HANS.out.trans (if_pos ⟨rfl, rfl⟩)
      have HR := Lib.hid hr
      clear hr
      go_enter Tryz.func65, Tryz.ntmps65
      go_wp2_with (first | (go_at_call 86; refine KC.out.mono ?_; rintro e w1 ⟨rfl, rfl⟩) | (go_at_call 87; refine LC.out.mono ?_; rintro e w1 ⟨rfl, rfl⟩))
      refine G0.out.mono ?_
      rintro e w1 ⟨rfl, rfl⟩
      go_wp2_with fail
      refine G1.out.mono ?_
      rintro e w1 ⟨rfl, rfl⟩
      go_wp2_with fail
      go_ret3
      rw [HR.out]
      exact ⟨rfl, rfl⟩
    · have c4 : (ln == 2) = false := by simpa using h2
      have hr := HANS.out.trans (if_neg (fun h => h2 h.2))
      have HR := Lib.hid hr
      clear hr h2
      go_enter Tryz.func65, Tryz.ntmps65
      go_wp2_with (first | (go_at_call 86; refine KC.out.mono ?_; rintro e w1 ⟨rfl, rfl⟩) | (go_at_call 87; refine LC.out.mono ?_; rintro e w1 ⟨rfl, rfl⟩))
      go_ret3
      rw [HR.out]
      exact ⟨rfl, rfl⟩
  · have c4 : (kd == 1) = false := by simpa using h1
    have c4' : (kd != 1) = true := by simpa using h1
    have hr := HANS.out.trans (if_neg (fun h => h1 h.1))
    have HR := Lib.hid hr
    clear hr h1
    go_enter Tryz.func65, Tryz.ntmps65
    go_wp2_with (first | (go_at_call 86; refine KC.out.mono ?_; rintro e w1 ⟨rfl, rfl⟩))
    go_ret3
    rw [HR.out]
    exact ⟨rfl, rfl⟩
set_option maxHeartbeats 4000000 in
set_option maxRecDepth 100000 in
theorem plain_calls {w0 w : World} {B b : Nat} {pa pn : Value} {th : List Thing} {nm : List (List UInt8)} {t : List UInt8} (E : Env w0 B pa pn th nm) (hold : Chg [] w0 w) (h : IsB w B b 98 [pa, pn] t) (x : Int) (h0 : 0 ≤ x) (h8 : x < 18446744073709551616) :
    Calls Tryz.prog 67 #[.pointer (some ⟨b, 0, none⟩), .int .u64 x] w fun e w' => e = .returned (.string ⟨(plainP th nm x).toArray⟩) ∧ Chg [] w w' := by
  obtain ⟨ga, bw, bh, size, rfl, hA0⟩ := E.ar
  have hA := hA0.sub hold
  obtain ⟨c2, c3⟩ := isb_cells h
  have KC := Lib.hid (kind_calls hA x h0 h8)
  have TC := Lib.hid (toint_calls x w h0 h8)
  have T3 := Lib.hid (to_one 3 x w (by omega) h0 h8)
  have T4 := Lib.hid (to_one 4 x w (by omega) h0 h8)
  have NC := Lib.hid (fun i => ntext_calls (E.nam.chg hold) i)
  have IC := Lib.hid (fun n h0 h1 => itoa_calls n h0 h1 w (E.tab.chg hold))
  have hti := toIntP_range x
  have ht3 := toP_range 3 x h0
  have ht4 := toP_range 4 x h0
  have hans : plainP th nm x = (if (toIntP x).2 = true then itoa (toIntP x).1
    else if x = 2 then [40, 41] else if x = 18 then [35, 116] else if x = 10 then [35, 102] else if x = 26 then [35, 117]
    else if (toP 3 x).2 = true then (match textN nm (toP 3 x).1 with | some s => s | none => 35 :: 110 :: itoa (toP 3 x).1)
    else if (toP 4 x).2 = true then 35 :: 104 :: itoa (toP 4 x).1
    else if 0 < kindA th x then 35 :: itoa (kindA th x) else [35, 63]) := rfl
  have hkd : kindA th x ≤ 9 := by
    unfold kindA
    cases hp : Go.Proofs.YtomhkemdafiphaaGreatDoor.Ar.place th x with
    | none => simp
    | some o =>
      unfold Go.Proofs.YtomhkemdafiphaaGreatDoor.Ar.place at hp
      split at hp
      · exact (hA.ok o (Go.Proofs.YtomhkemdafiphaaGreatDoor.Ar.look_mem hp)).2.1
      · cases hp
  generalize toIntP x = ti at *
  generalize toP 3 x = t3 at *
  generalize toP 4 x = t4 at *
  generalize kindA th x = kd at *
  obtain ⟨ti1, ti2⟩ := ti
  obtain ⟨t31, t32⟩ := t3
  obtain ⟨t41, t42⟩ := t4
  simp only at hti ht3 ht4 hans
  have HANS := Lib.hid hans
  have HTI := Lib.hid hti
  have HKD := Lib.hid hkd
  have HT3 := Lib.hid ht3
  have HT4 := Lib.hid ht4
  clear h hA hA0 hold E hans hti ht3 ht4 hkd
  cases ti2 with
  | true =>
    have IC1 := Lib.hid (IC.out ti1 (by have := HTI.out; omega) (by have := HTI.out; omega))
    have hr := HANS.out.trans (if_pos rfl)
    have HR := Lib.hid hr
    clear hr IC
    go_enter Tryz.func67, Tryz.ntmps67
    go_wp2_with (first | (go_at_call 90; refine TC.out.mono ?_; rintro e w1 ⟨rfl, rfl⟩))
    refine IC1.out.mono ?_
    rintro e w1 ⟨rfl, k1⟩
    have K1 := Lib.hid k1
    clear k1
    go_wp2_with fail
    go_ret
    rw [HR.out]
    exact ⟨rfl, K1.out⟩
  | false =>
    have hr := HANS.out.trans (if_neg (by simp))
    have HR := Lib.hid hr
    clear hr
    by_cases h2 : x = 2
    · subst h2
      have hr := HR.out.trans (if_pos rfl)
      have HRR := Lib.hid hr
      clear hr
      go_enter Tryz.func67, Tryz.ntmps67
      go_wp2_with (first | (go_at_call 90; refine TC.out.mono ?_; rintro e w1 ⟨rfl, rfl⟩))
      go_ret
      rw [HRR.out]
      exact ⟨rfl, Chg.refl _ _⟩
    have d2 : (x == 2) = false := by simpa using h2
    by_cases h18 : x = 18
    · subst h18
      have hr := HR.out.trans ((if_neg (by decide)).trans (if_pos rfl))
      have HRR := Lib.hid hr
      clear hr
      go_enter Tryz.func67, Tryz.ntmps67
      go_wp2_with (first | (go_at_call 90; refine TC.out.mono ?_; rintro e w1 ⟨rfl, rfl⟩))
      refine (truth_calls _ _).mono ?_
      rintro e w2 ⟨rfl, rfl⟩
      go_wp2_with fail
      go_ret
      rw [HRR.out]
      exact ⟨rfl, Chg.refl _ _⟩
    have d18 : (x == 18) = false := by simpa using h18
    by_cases h10 : x = 10
    · subst h10
      have hr := HR.out.trans ((if_neg (by decide)).trans ((if_neg (by decide)).trans (if_pos rfl)))
      have HRR := Lib.hid hr
      clear hr
      go_enter Tryz.func67, Tryz.ntmps67
      go_wp2_with (first | (go_at_call 90; refine TC.out.mono ?_; rintro e w1 ⟨rfl, rfl⟩))
      refine (truth_calls _ _).mono ?_
      rintro e w2 ⟨rfl, rfl⟩
      go_wp2_with fail
      go_ret
      rw [HRR.out]
      exact ⟨rfl, Chg.refl _ _⟩
    have d10 : (x == 10) = false := by simpa using h10
    by_cases h26 : x = 26
    · subst h26
      have hr := HR.out.trans ((if_neg (by decide)).trans ((if_neg (by decide)).trans ((if_neg (by decide)).trans (if_pos rfl))))
      have HRR := Lib.hid hr
      clear hr
      go_enter Tryz.func67, Tryz.ntmps67
      go_wp2_with (first | (go_at_call 90; refine TC.out.mono ?_; rintro e w1 ⟨rfl, rfl⟩))
      go_ret
      rw [HRR.out]
      exact ⟨rfl, Chg.refl _ _⟩
    have d26 : (x == 26) = false := by simpa using h26
    have hr := HR.out.trans ((if_neg h2).trans ((if_neg h18).trans ((if_neg h10).trans (if_neg h26))))
    have HR2 := Lib.hid hr
    clear hr h2 h18 h10 h26
    cases t32 with
    | true =>
      have hr := HR2.out.trans (if_pos rfl)
      have HR3 := Lib.hid hr
      have NC1 := Lib.hid (NC.out t31)
      have IC1 := Lib.hid (IC.out t31 (by have := HT3.out; omega) (by have := HT3.out; omega))
      have hln := Lib.itoa_length_le t31 (by have := HT3.out; omega) (by have := HT3.out; omega)
      have hln2 : 2 + (itoa t31).length ≤ 9223372036854775807 := by omega
      clear hr IC NC
      cases hx : textN nm t31 with
      | some s =>
        have hr := HR3.out
        rw [hx] at hr
        have HR4 := Lib.hid hr
        rw [hx] at NC1
        clear hr hx
        go_enter Tryz.func67, Tryz.ntmps67
        go_wp2_with (first | (go_at_call 90; refine TC.out.mono ?_; rintro e w1 ⟨rfl, rfl⟩) | (go_at_call 91; refine T3.out.mono ?_; rintro e w1 ⟨rfl, rfl⟩))
        refine NC1.out.mono ?_
        rintro e w1 ⟨rfl, rfl⟩
        go_wp2_with fail
        go_ret
        rw [HR4.out]
        exact ⟨rfl, Chg.refl _ _⟩
      | none =>
        have hr := HR3.out
        rw [hx] at hr
        have HR4 := Lib.hid hr
        rw [hx] at NC1
        clear hr hx
        go_enter Tryz.func67, Tryz.ntmps67
        go_wp2_with (first | (go_at_call 90; refine TC.out.mono ?_; rintro e w1 ⟨rfl, rfl⟩) | (go_at_call 91; refine T3.out.mono ?_; rintro e w1 ⟨rfl, rfl⟩))
        refine NC1.out.mono ?_
        rintro e w1 ⟨rfl, rfl⟩
        go_wp2_with fail
        refine IC1.out.mono ?_
        rintro e w1 ⟨rfl, k1⟩
        have K1 := Lib.hid k1
        clear k1
        go_wp2_with fail
        go_ret
        rw [HR4.out]
        exact ⟨congrArg (fun z => Ending.returned (.string z)) (cat_bytes [35, 110] (itoa t31)), K1.out⟩
    | false =>
      have hr := HR2.out.trans (if_neg (by simp))
      have HR3 := Lib.hid hr
      clear hr
      cases t42 with
      | true =>
        have hr := HR3.out.trans (if_pos rfl)
        have HR4 := Lib.hid hr
        have IC1 := Lib.hid (IC.out t41 (by have := HT4.out; omega) (by have := HT4.out; omega))
        have hln := Lib.itoa_length_le t41 (by have := HT4.out; omega) (by have := HT4.out; omega)
        have hln2 : 2 + (itoa t41).length ≤ 9223372036854775807 := by omega
        clear hr IC NC
        go_enter Tryz.func67, Tryz.ntmps67
        go_wp2_with (first | (go_at_call 90; refine TC.out.mono ?_; rintro e w1 ⟨rfl, rfl⟩) | (go_at_call 91; (first | (with_reducible refine T3.out.mono ?_) | (with_reducible refine T4.out.mono ?_)); rintro e w1 ⟨rfl, rfl⟩))
        refine IC1.out.mono ?_
        rintro e w1 ⟨rfl, k1⟩
        have K1 := Lib.hid k1
        clear k1
        go_wp2_with fail
        go_ret
        rw [HR4.out]
        exact ⟨congrArg (fun z => Ending.returned (.string z)) (cat_bytes [35, 104] (itoa t41)), K1.out⟩
      | false =>
        have hr := HR3.out.trans (if_neg (by simp))
        by_cases hk : 0 < kd
        · have ck : decide (0 < kd) = true := decide_eq_true hk
          have hr2 := hr.trans (if_pos hk)
          have HR4 := Lib.hid hr2
          have IC1 := Lib.hid (IC.out kd (by omega) (by have := HKD.out; omega))
          have hln := Lib.itoa_length_le kd (by omega) (by have := HKD.out; omega)
          have hln2 : 1 + (itoa kd).length ≤ 9223372036854775807 := by omega
          clear hr IC NC hr2 hk
          go_enter Tryz.func67, Tryz.ntmps67
          go_wp2_with (first | (go_at_call 90; refine TC.out.mono ?_; rintro e w1 ⟨rfl, rfl⟩) | (go_at_call 86; refine KC.out.mono ?_; rintro e w1 ⟨rfl, rfl⟩) | (go_at_call 91; (first | (with_reducible refine T3.out.mono ?_) | (with_reducible refine T4.out.mono ?_)); rintro e w1 ⟨rfl, rfl⟩))
          refine IC1.out.mono ?_
          rintro e w1 ⟨rfl, k1⟩
          have K1 := Lib.hid k1
          clear k1
          go_wp2_with fail
          go_ret
          rw [HR4.out]
          exact ⟨congrArg (fun z => Ending.returned (.string z)) (cat_bytes [35] (itoa kd)), K1.out⟩
        · have ck : decide (0 < kd) = false := decide_eq_false hk
          have hr2 := hr.trans (if_neg hk)
          have HR4 := Lib.hid hr2
          clear hr IC NC hr2 hk
          go_enter Tryz.func67, Tryz.ntmps67
          go_wp2_with (first | (go_at_call 90; refine TC.out.mono ?_; rintro e w1 ⟨rfl, rfl⟩) | (go_at_call 86; refine KC.out.mono ?_; rintro e w1 ⟨rfl, rfl⟩) | (go_at_call 91; (first | (with_reducible refine T3.out.mono ?_) | (with_reducible refine T4.out.mono ?_)); rintro e w1 ⟨rfl, rfl⟩))
          go_ret
          rw [HR4.out]
          exact ⟨rfl, Chg.refl _ _⟩
end Go.Proofs.YtomhkemdafiphaaGreatDoor.ShowC
/- The contract of word of the writer of words; each states its conditions. -/
namespace Go.Proofs.YtomhkemdafiphaaGreatDoor.ShowC
open Go.Proofs.YtomhkemdafiphaaGreatDoor.Word Go Go.RowKit Go.Proofs.YtomhkemdafiphaaGreatDoor.Heap Go.Proofs.YtomhkemdafiphaaGreatDoor.ReadP Go.Proofs.YtomhkemdafiphaaGreatDoor.TreeP Go.Proofs.YtomhkemdafiphaaGreatDoor.ShowP Go.Proofs.YtomhkemdafiphaaGreatDoor.ShowB Go.Proofs.YtomhkemdafiphaaGreatDoor.ShowW
open Go.Proofs.YtomhkemdafiphaaGreatDoor.ReadM (RI RN nodeC intOf6)
open Go.Proofs.YtomhkemdafiphaaGreatDoor.Ar (Thing IsAr kindA lenA getA place look_mem)
open Go.Lib (itoa byteCells)
theorem get_range {th : List Thing} (h : ∀ o ∈ th, ∀ v ∈ o.2, 0 ≤ v ∧ v < 18446744073709551616) (x i : Int) : 0 ≤ (getA th x i).1 ∧ (getA th x i).1 < 18446744073709551616 := by
  unfold getA
  cases hp : place th x with
  | none => simp
  | some o =>
    simp only
    have ho : o ∈ th := by
      unfold place at hp
      split at hp
      · exact look_mem hp
      · cases hp
    split
    · simp only
      rw [List.getD_eq_getElem?_getD]
      cases hx : o.2[i.toNat]? with
      | none => simp
      | some v => exact h o ho v (List.mem_of_getElem? hx)
    · simp
theorem pair_range {th : List Thing} (h : ∀ o ∈ th, ∀ v ∈ o.2, 0 ≤ v ∧ v < 18446744073709551616) {x a b : Int} (hp : pairP th x = some (a, b)) : (0 ≤ a ∧ a < 18446744073709551616) ∧ 0 ≤ b ∧ b < 18446744073709551616 := by
  unfold pairP at hp
  split at hp
  · injection hp with hp
    injection hp with h1 h2
    rw [← h1, ← h2]
    exact ⟨get_range h x 0, get_range h x 1⟩
  · cases hp
theorem plain_len {th : List Thing} {nm : List (List UInt8)} (h : ∀ s ∈ nm, s.length ≤ 1000) (hok : ∀ o ∈ th, o.1 ≤ 9) (x : Int) (h0 : 0 ≤ x) : (plainP th nm x).length ≤ 1100 := by
  have hti := toIntP_range x
  have ht3 := toP_range 3 x h0
  have ht4 := toP_range 4 x h0
  have hkd : kindA th x ≤ 9 := by
    unfold kindA
    cases hp : place th x with
    | none => simp
    | some o =>
      unfold place at hp
      split at hp
      · exact hok o (look_mem hp)
      · cases hp
  have il : ∀ n : Int, -9223372036854775808 ≤ n → n ≤ 9223372036854775807 → (itoa n).length ≤ 21 := Lib.itoa_length_le
  unfold plainP
  split
  · have := il (toIntP x).1 (by omega) (by omega); omega
  split
  · simp
  split
  · simp
  split
  · simp
  split
  · simp
  split
  · cases hx : textN nm (toP 3 x).1 with
    | some s =>
      have hm : s ∈ nm := by
        unfold textN at hx
        split at hx
        · exact List.mem_of_getElem? hx
        · cases hx
      have := h s hm
      simp only
      omega
    | none =>
      have := il (toP 3 x).1 (by omega) (by omega)
      simp only [List.length_cons]
      omega
  split
  · have := il (toP 4 x).1 (by omega) (by omega)
    simp only [List.length_cons]
    omega
  split
  · have := il (kindA th x) (by omega) (by omega)
    simp only [List.length_cons]
    omega
  · simp
/-- what is written behind a pair's last word -/
def finE (pl : Int → List UInt8) (s : List UInt8) (x : Int) : Except (List UInt8) (List UInt8) := match (if x = 2 then .ok s else putE s (32 :: 46 :: 32 :: pl x)) with
  | .error e => .error e
  | .ok s => putE s [41]
theorem run_rest (pr : Int → Option (Int × Int)) (pl : Int → List UInt8) (n : Nat) (s : List UInt8) (a b : Int) : runE pr pl (n + 1) s (.rest a b) = match runE pr pl n s (.word a) with
    | .error e => .error e
    | .ok s => match pr b with
      | some (a', b') => (match putE s [32] with
        | .error e => .error e
        | .ok s => runE pr pl n s (.rest a' b'))
      | none => finE pl s b := rfl
theorem run_word (pr : Int → Option (Int × Int)) (pl : Int → List UInt8) (n : Nat) (s : List UInt8) (x : Int) : runE pr pl (n + 1) s (.word x) = match pr x with
    | none => putE s (pl x)
    | some (a, b) => match putE s [40] with
      | .error e => .error e
      | .ok s => runE pr pl n s (.rest a b) := rfl
/-- what a call of word leaves -/
def WordCon (w0 : World) (B b : Nat) (pa pn : Value) (th : List Thing) (nm : List (List UInt8)) (n : Nat) : Prop := ∀ (w : World) (t : List UInt8) (x : Int), Chg [] w0 w → IsB w B b 98 [pa, pn] t → t.length ≤ 120 → need t (.word x) ≤ n → 0 ≤ x → x < 18446744073709551616 →
  Calls Tryz.prog 53 #[.pointer (some ⟨b, 0, none⟩), .int .u64 x] w fun e w' => e = wrE (runE (pairP th) (plainP th nm) n t (.word x)) ∧ BAt w' B b 98 [pa, pn] (.pointer (some ⟨b, 0, none⟩)) (outE (runE (pairP th) (plainP th nm) n t (.word x))) ∧ Fr B b w w'
theorem pairE_none : pairE none = .returned (.tuple #[.int .u64 0, .int .u64 0, .bool false]) := rfl
theorem pairE_some (a b : Int) : pairE (some (a, b)) = .returned (.tuple #[.int .u64 a, .int .u64 b, .bool true]) := rfl
theorem wrE_ok (t : List UInt8) : wrE (.ok t) = .returned (.tuple #[]) := rfl
theorem wrE_error (t : List UInt8) : wrE (.error t) = .panicked fullV := rfl
theorem out_put (s t : List UInt8) : outE (putE s t) = s ++ t := by unfold putE; split <;> rfl
set_option maxHeartbeats 8000000 in
set_option maxRecDepth 100000 in
theorem word_step {w0 : World} {B b : Nat} {pa pn : Value} {th : List Thing} {nm : List (List UInt8)} (E : Env w0 B pa pn th nm) (n : Nat) (ih : ∀ m, m ≤ n → WordCon w0 B b pa pn th nm m) : WordCon w0 B b pa pn th nm (n + 1) := by
  intro w t x hold hb ht hn h0 h8
  have PC := Lib.hid (fun w1 t1 (k : Chg [] w0 w1) (h : IsB w1 B b 98 [pa, pn] t1) x h0 h8 => pair_calls E k h x h0 h8)
  have LC := Lib.hid (fun w1 t1 (k : Chg [] w0 w1) (h : IsB w1 B b 98 [pa, pn] t1) x h0 h8 => plain_calls E k h x h0 h8)
  have PR := Lib.hid (fun x a b' h => pair_range E.thw (x := x) (a := a) (b := b') h)
  have hok9 : ∀ o ∈ th, o.1 ≤ 9 := by
    obtain ⟨ga, bw, bh, size, _, hA⟩ := E.ar
    exact fun o ho => (hA.ok o ho).2.1
  have PL := Lib.hid (fun x h0 => plain_len E.nms hok9 x h0)
  have HE := Lib.hid E.hB
  have hBw : B ≤ w.heap.size := by obtain ⟨_, h⟩ := hb.get; exact h.lt
  have PC0 := Lib.hid (PC.out w t hold hb x h0 h8)
  have RW := Lib.hid (run_word (pairP th) (plainP th nm) n t x)
  cases hp : pairP th x with
  | none =>
    rw [hp] at PC0
    have hr := RW.out
    rw [hp] at hr
    have HR := Lib.hid hr
    have LC0 := Lib.hid (LC.out w t hold hb x h0 h8)
    have PUT := Lib.hid (fun w1 (k : Chg [] w w1) => put_calls (hb.imp (fun h => h.chg k) (fun h => h.chg k)) ht (plainP th nm x) (by have := PL.out x h0; omega))
    have HBW := Lib.hid hBw
    clear hr hp hold hb ih E
    go_enter Tryz.func53, Tryz.ntmps53
    go_wp2_with fail
    refine PC0.out.mono ?_
    rintro e w1 ⟨rfl, rfl⟩
    rw [pairE_none]
    go_wp2_with fail
    refine LC0.out.mono ?_
    rintro e w1 ⟨rfl, k1⟩
    have PUT1 := Lib.hid (PUT.out w1 k1)
    have K1 := Lib.hid k1
    clear k1
    go_wp2_with fail
    refine PUT1.out.mono ?_
    rintro e w2 ⟨rfl, hA, hS⟩
    have HA := Lib.hid hA
    have HS := Lib.hid ((Fr.chg K1.out HBW.out).trans hS)
    clear hA hS
    rcases put_cases t (plainP th nm x) with ⟨g1, g2⟩ | ⟨g1, g2⟩
    · rw [g1] at HR
      rw [g1, wrE_ok]
      clear g1 g2
      go_wp2_with fail
      refine bodyPost_ret (results_none rfl _ _ _) rfl ?_
      rw [show runE (pairP th) (plainP th nm) (n + 1) t (.word x) = _ from HR.out]
      exact ⟨rfl, HA.out, HS.out⟩
    · rw [g1] at HR
      rw [g1, wrE_error]
      clear g1 g2
      refine ⟨rfl, ?_⟩
      rw [show runE (pairP th) (plainP th nm) (n + 1) t (.word x) = _ from HR.out]
      exact ⟨rfl, HA.out, HS.out⟩
  | some ab =>
    obtain ⟨a, b'⟩ := ab
    rw [hp] at PC0
    have hr := RW.out
    rw [hp] at hr
    simp only at hr
    have HR0 := Lib.hid hr
    obtain ⟨⟨ra0, ra1⟩, rb0, rb1⟩ := PR.out x a b' hp
    have PUT := Lib.hid (put_calls hb ht [40] (by simp))
    have HO := Lib.hid hold
    have HIH := Lib.hid ih
    have HT := Lib.hid ht
    have HN := Lib.hid hn
    have HX := Lib.hid (show (0 ≤ x ∧ x < 18446744073709551616) ∧ (0 ≤ a ∧ a < 18446744073709551616) ∧ 0 ≤ b' ∧ b' < 18446744073709551616 from ⟨⟨h0, h8⟩, ⟨ra0, ra1⟩, rb0, rb1⟩)
    clear hr hp hold hb ih E RW h0 h8 ht hn ra0 ra1 rb0 rb1
    generalize hans : runE (pairP th) (plainP th nm) (n + 1) t (.word x) = ans at *
    go_enter Tryz.func53, Tryz.ntmps53
    go_wp2_with fail
    refine PC0.out.mono ?_
    rintro e w1 ⟨rfl, rfl⟩
    rw [pairE_some]
    go_wp2_with fail
    refine PUT.out.mono ?_
    rintro e w1 ⟨rfl, hA1, hS1⟩
    rcases put_cases t [40] with ⟨g1, g2⟩ | ⟨g1, g2⟩
    · have hr := HR0.out
      rw [g1] at hr
      simp only at hr
      rw [g1, wrE_ok]
      have HA1 := Lib.hid hA1
      have HS1 := Lib.hid hS1
      have HR1 := Lib.hid hr
      have HG2 := Lib.hid g2
      clear hA1 hS1 g1 g2 hr
      go_wp2_with fail
      go_loopg [1, 4, 5, 6] (n + 1) (fun gk v1 v4 v5 v6 wr => ∃ (x1 a1 b1 : Int) (ok : Bool) (s1 : List UInt8), v1 = .int .u64 x1 ∧ v4 = .int .u64 a1 ∧ v5 = .int .u64 b1 ∧ v6 = .bool ok ∧ Hid (0 ≤ x1 ∧ x1 < 18446744073709551616 ∧ 0 ≤ a1 ∧ a1 < 18446744073709551616 ∧ 0 ≤ b1 ∧ b1 < 18446744073709551616) ∧ Hid (s1.length ≤ 120 ∧ gk ≤ n + 1) ∧ Hid (BAt wr B b 98 [pa, pn] (.pointer (some ⟨b, 0, none⟩)) s1) ∧ Hid (Fr B b w wr) ∧ Hid (if ok = true then 0 < gk ∧ need s1 (.rest a1 b1) ≤ gk - 1 ∧ ans = runE (pairP th) (plainP th nm) (gk - 1) s1 (.rest a1 b1) else ans = finE (plainP th nm) s1 x1))
      case atStart => exact ⟨x, a, b', true, t ++ [40], rfl, rfl, rfl, rfl, Lib.hid (by have := HX.out; omega), Lib.hid ⟨HG2.out, Nat.le_refl _⟩, HA1, HS1, Lib.hid (by
        rw [if_pos rfl]
        refine ⟨Nat.succ_pos _, ?_, HR1.out⟩
        have h1 := HN.out
        have h2 := HG2.out
        simp only [List.length_append, List.length_singleton] at h2
        simp only [need, List.length_append, List.length_singleton] at h1 ⊢
        omega)⟩
      case round =>
        obtain ⟨x1, a1, b1, ok, s1, rfl, rfl, rfl, rfl, HX1, HL1, HJ, HF, HRR⟩ := hrel
        have HOr := Lib.hid (HF.out.old HO.out HE.out)
        cases ok with
        | true =>
          have hrr := HRR.out
          rw [if_pos rfl] at hrr
          obtain ⟨hg0, hnd, hrr⟩ := hrr
          obtain ⟨m, hm⟩ : ∃ m, gk = m + 2 := ⟨gk - 2, by have := HL1.out.1; simp only [need] at hnd; omega⟩
          subst hm
          rw [show m + 2 - 1 = m + 1 from rfl] at hnd hrr
          rw [run_rest] at hrr
          have hnw : need s1 (.word a1) ≤ m := by simp only [need] at hnd ⊢; omega
          have WC := Lib.hid (HIH.out m (by have := HL1.out.2; omega) wr s1 a1 HOr.out (.inr HJ.out) HL1.out.1 hnw (by have := HX1.out; omega) (by have := HX1.out; omega))
          have hrt := run_text (pairP th) (plainP th nm) m s1 (.word a1) HL1.out.1 hnw
          have HND := Lib.hid hnd
          clear hg0 hnd hnw
          cases hw : runE (pairP th) (plainP th nm) m s1 (.word a1) with
          | error u =>
            rw [hw] at hrr WC
            have HRU := Lib.hid hrr
            clear hw hrr hrt
            go_wp2_with fail
            refine WC.out.mono ?_
            rintro e w2 ⟨rfl, hA2, hS2⟩
            rw [wrE_error]
            refine ⟨rfl, ?_⟩
            rw [show ans = _ from HRU]
            exact ⟨rfl, hA2, HF.out.trans hS2⟩
          | ok s2 =>
            rw [hw] at hrr WC hrt
            simp only at hrr hrt
            have HRT := Lib.hid hrt.2
            have HRU := Lib.hid hrr
            clear hw hrr hrt
            go_wp2_with fail
            refine WC.out.mono ?_
            rintro e w2 ⟨rfl, hA2, hS2⟩
            rw [wrE_ok]
            have HA2 := Lib.hid (show BAt w2 B b 98 [pa, pn] (.pointer (some ⟨b, 0, none⟩)) s2 from hA2)
            have HF2 := Lib.hid (HF.out.trans hS2)
            have PC2 := Lib.hid (PC.out w2 s2 (HF2.out.old HO.out HE.out) (.inr HA2.out) b1 (by have := HX1.out; omega) (by have := HX1.out; omega))
            clear hA2 hS2
            cases hp2 : pairP th b1 with
            | none =>
              have hru := HRU.out
              rw [hp2] at hru PC2
              have HRV := Lib.hid hru
              clear hp2 hru
              go_wp2_with fail
              refine PC2.out.mono ?_
              rintro e w3 ⟨rfl, rfl⟩
              rw [pairE_none]
              go_wp2_with fail
              go_roundg (m + 1)
              case measure => omega
              case rel => exact ⟨b1, 0, 0, false, s2, rfl, rfl, rfl, rfl, Lib.hid (by have := HX1.out; omega), Lib.hid ⟨HRT.out.1, by have := HL1.out.2; omega⟩, HA2, HF2, Lib.hid (by rw [if_neg (by decide)]; exact HRV.out)⟩
            | some ab2 =>
              obtain ⟨a2, b2⟩ := ab2
              have hpr := PR.out b1 a2 b2 hp2
              have hru := HRU.out
              rw [hp2] at hru PC2
              have HRV := Lib.hid hru
              have HPR := Lib.hid hpr
              have PUT2 := Lib.hid (put_calls (.inr HA2.out) HRT.out.1 [32] (by simp))
              clear hp2 hru hpr
              go_wp2_with fail
              refine PC2.out.mono ?_
              rintro e w3 ⟨rfl, rfl⟩
              rw [pairE_some]
              go_wp2_with fail
              refine PUT2.out.mono ?_
              rintro e w3 ⟨rfl, hA3, hS3⟩
              rcases put_cases s2 [32] with ⟨g1, g2⟩ | ⟨g1, g2⟩
              · have hr := HRV.out
                rw [g1] at hr
                rw [g1, wrE_ok]
                have HA3 := Lib.hid hA3
                have HF3 := Lib.hid (HF2.out.trans hS3)
                have HR3 := Lib.hid hr
                have HG3 := Lib.hid g2
                clear hA3 hS3 g1 g2 hr
                go_wp2_with fail
                go_roundg (m + 1)
                case measure => omega
                case rel => exact ⟨b1, a2, b2, true, s2 ++ [32], rfl, rfl, rfl, rfl, Lib.hid (by have := HX1.out; have := HPR.out; omega), Lib.hid ⟨HG3.out, by have := HL1.out.2; omega⟩, HA3, HF3, Lib.hid (by
                  rw [if_pos rfl]
                  refine ⟨Nat.succ_pos _, ?_, HR3.out⟩
                  have h1 := HND.out
                  have h2 := HG3.out
                  have h3 := HRT.out.2
                  simp only [List.length_append, List.length_singleton] at h2
                  simp only [need, List.length_append, List.length_singleton] at h1 ⊢
                  omega)⟩
              · have hr := HRV.out
                rw [g1] at hr
                rw [g1, wrE_error]
                refine ⟨rfl, ?_⟩
                rw [show ans = _ from hr]
                exact ⟨rfl, hA3, HF2.out.trans hS3⟩
        | false =>
          have hrr := HRR.out
          rw [if_neg (by decide)] at hrr
          by_cases hx2 : x1 = 2
          · subst hx2
            have hr : ans = putE s1 [41] := by rw [hrr]; rfl
            have HRP := Lib.hid hr
            have PUT2 := Lib.hid (put_calls (.inr HJ.out) HL1.out.1 [41] (by simp))
            clear hr hrr
            go_wp2_with fail
            refine PUT2.out.mono ?_
            rintro e w2 ⟨rfl, hA9, hS9⟩
            rcases put_cases s1 [41] with ⟨g1, g2⟩ | ⟨g1, g2⟩
            · have hr := HRP.out
              rw [g1] at hr
              rw [g1, wrE_ok]
              have HA9 := Lib.hid hA9
              have HF9 := Lib.hid (HF.out.trans hS9)
              have HR9 := Lib.hid hr
              clear hA9 hS9 g1 g2 hr
              go_wp2_with fail
              go_end0
              rw [show ans = _ from HR9]
              exact ⟨rfl, HA9.out, HF9.out⟩
            · have hr := HRP.out
              rw [g1] at hr
              rw [g1, wrE_error]
              refine ⟨rfl, ?_⟩
              rw [show ans = _ from hr]
              exact ⟨rfl, hA9, HF.out.trans hS9⟩
          · have c4 : (x1 == 2) = false := by simpa using hx2
            have c4' : (x1 != 2) = true := by simpa using hx2
            have hr : ans = (match putE s1 (32 :: 46 :: 32 :: plainP th nm x1) with
              | .error e => .error e
              | .ok s => putE s [41]) := by rw [hrr]; unfold finE; rw [if_neg hx2]
            have HRP := Lib.hid hr
            have LC2 := Lib.hid (LC.out wr s1 HOr.out (.inr HJ.out) x1 (by have := HX1.out; omega) (by have := HX1.out; omega))
            have hpl := PL.out x1 (by have := HX1.out; omega)
            have hpl3 : 3 + (plainP th nm x1).length ≤ 9223372036854775807 := by omega
            have PUT2 : Hid (∀ w2, Chg [] wr w2 → Calls Tryz.prog 66 #[.pointer (some ⟨b, 0, none⟩), .string (⟨#[32, 46, 32]⟩ ++ ⟨(plainP th nm x1).toArray⟩)] w2 fun e w' => e = wrE (putE s1 (32 :: 46 :: 32 :: plainP th nm x1)) ∧ BAt w' B b 98 [pa, pn] (.pointer (some ⟨b, 0, none⟩)) (s1 ++ 32 :: 46 :: 32 :: plainP th nm x1) ∧ Fr B b w2 w') := Lib.hid (fun w2 k => by
              rw [show (⟨#[32, 46, 32]⟩ : ByteArray) ++ ⟨(plainP th nm x1).toArray⟩ = ⟨(32 :: 46 :: 32 :: plainP th nm x1).toArray⟩ from cat_bytes [32, 46, 32] _]
              exact put_calls (.inr (HJ.out.chg k)) HL1.out.1 _ (by simp only [List.length_cons]; omega))
            have hBr : B ≤ wr.heap.size := HJ.out.lt
            have HBR := Lib.hid hBr
            clear hr hrr hx2 hpl hBr
            go_wp2_with fail
            refine LC2.out.mono ?_
            rintro e w2 ⟨rfl, k2⟩
            have PUT3 := Lib.hid (PUT2.out w2 k2)
            have HF2 := Lib.hid (HF.out.trans (Fr.chg (b := b) k2 HBR.out))
            clear k2 PUT2
            go_wp2_with fail
            refine PUT3.out.mono ?_
            rintro e w3 ⟨rfl, hA3, hS3⟩
            rcases put_cases s1 (32 :: 46 :: 32 :: plainP th nm x1) with ⟨g1, g2⟩ | ⟨g1, g2⟩
            · have hr := HRP.out
              rw [g1] at hr
              rw [g1, wrE_ok]
              have HF3 := Lib.hid (HF2.out.trans hS3)
              have HRQ := Lib.hid hr
              have PUT4 := Lib.hid (put_calls (.inr hA3) g2 [41] (by simp))
              clear hA3 hS3 g1 g2 hr PUT3
              go_wp2_with fail
              refine PUT4.out.mono ?_
              rintro e w4 ⟨rfl, hA9, hS9⟩
              rcases put_cases (s1 ++ 32 :: 46 :: 32 :: plainP th nm x1) [41] with ⟨g1, g2⟩ | ⟨g1, g2⟩
              · have hr := HRQ.out
                rw [g1] at hr
                rw [g1, wrE_ok]
                have HA9 := Lib.hid hA9
                have HF9 := Lib.hid (HF3.out.trans hS9)
                have HR9 := Lib.hid hr
                clear hA9 hS9 g1 g2 hr
                go_wp2_with fail
                go_end0
                rw [show ans = _ from HR9]
                exact ⟨rfl, HA9.out, HF9.out⟩
              · have hr := HRQ.out
                rw [g1] at hr
                rw [g1, wrE_error]
                refine ⟨rfl, ?_⟩
                rw [show ans = _ from hr]
                exact ⟨rfl, hA9, HF3.out.trans hS9⟩
            · have hr := HRP.out
              rw [g1] at hr
              rw [g1, wrE_error]
              refine ⟨rfl, ?_⟩
              rw [show ans = _ from hr]
              exact ⟨rfl, hA3, HF2.out.trans hS3⟩
    · have hr := HR0.out
      rw [g1] at hr
      simp only at hr
      rw [g1, wrE_error]
      refine ⟨rfl, ?_⟩
      rw [hr]
      exact ⟨rfl, hA1, hS1⟩
theorem word_calls {w0 : World} {B b : Nat} {pa pn : Value} {th : List Thing} {nm : List (List UInt8)} (E : Env w0 B pa pn th nm) : ∀ n : Nat, WordCon w0 B b pa pn th nm n := by
  intro n
  induction n using Nat.strongRecOn with
  | _ n ih =>
    cases n with
    | zero =>
      intro w t x _ _ ht hn
      simp only [need] at hn
      omega
    | succ n => exact word_step E n (fun m hm => ih m (by omega))
end Go.Proofs.YtomhkemdafiphaaGreatDoor.ShowC
/- The contracts of all and Word of layer 7 (show); each states its conditions. -/
namespace Go.Proofs.YtomhkemdafiphaaGreatDoor.ShowC
open Go.Proofs.YtomhkemdafiphaaGreatDoor.Word Go Go.RowKit Go.Proofs.YtomhkemdafiphaaGreatDoor.Heap Go.Proofs.YtomhkemdafiphaaGreatDoor.ReadP Go.Proofs.YtomhkemdafiphaaGreatDoor.TreeP Go.Proofs.YtomhkemdafiphaaGreatDoor.ShowP Go.Proofs.YtomhkemdafiphaaGreatDoor.ShowB Go.Proofs.YtomhkemdafiphaaGreatDoor.ShowW
open Go.Proofs.YtomhkemdafiphaaGreatDoor.Ar (Thing IsAr)
theorem ta_full (w : World) : (Instr.typeAssert (.iface 126 (.agg #[])) 20 126 true).run Tryz.prog w = .ok (.tuple #[.agg #[], .bool true]) w := by kernel_rfl
theorem ta_nil (w : World) : (Instr.typeAssert .nilIface 20 126 true).run Tryz.prog w = .ok (.tuple #[.agg #[], .bool false]) w := by kernel_rfl
set_option maxHeartbeats 2000000 in
set_option maxRecDepth 100000 in
theorem catch_full (w : World) :
    CallsD Tryz.prog 52 #[] (.panicking fullV) w fun e u' w' => e = .returned (.tuple #[]) ∧ u' = .panicking [{ v := .iface 126 (.agg #[]), recovered := true }] ∧ Chg [] w w' := by
  have h1 := ta_full
  have h0 := ta_nil
  refine callsD_of_wpS Tryz.func52 rfl fun c₀ cs hu => ?_
  unfold fullV at hu
  apply wpS_seq
  apply wpS_region
  simp [wpOpsS, go_sem, recoverD, hu, Tryz.ntmps52, Exit.thenS]
  simp only [Array.replicate, List.replicate, List.setIfInBounds_toArray, List.set]
  refine wpS_of_wp ?_
  go_wp2_with fail
  have k : Chg [] w (w.alloc (.cells #[] 126)) := (Chg.refl [] w).alloc _
  simp [bodyPostS, results, Tryz.results52, k]
set_option maxHeartbeats 2000000 in
set_option maxRecDepth 100000 in
theorem catch_idle (w : World) :
    CallsD Tryz.prog 52 #[] .returning w fun e u' w' => e = .returned (.tuple #[]) ∧ u' = .returning ∧ Chg [] w w' := by
  have h1 := ta_full
  have h0 := ta_nil
  refine callsD_of_wpS Tryz.func52 rfl fun c₀ cs hu => ?_
  apply wpS_seq
  apply wpS_region
  simp [wpOpsS, go_sem, recoverD, hu, Tryz.ntmps52, Exit.thenS]
  simp only [Array.replicate, List.replicate, List.setIfInBounds_toArray, List.set]
  refine wpS_of_wp ?_
  go_wp2_with fail
  have k : Chg [] w (w.alloc (.cells #[] 126)) := (Chg.refl [] w).alloc _
  cases c₀
  simp_all [bodyPostS, results, Tryz.results52]
set_option maxHeartbeats 2000000 in
set_option maxRecDepth 100000 in
theorem all_calls {w0 w : World} {B b : Nat} {pa pn : Value} {th : List Thing} {nm : List (List UInt8)} (E : Env w0 B pa pn th nm) (hold : Chg [] w0 w) (hb : IsB w B b 98 [pa, pn] []) (x : Int) (h0 : 0 ≤ x) (h8 : x < 18446744073709551616) :
    Calls Tryz.prog 39 #[.pointer (some ⟨b, 0, none⟩), .int .u64 x] w fun e w' => e = .returned (.tuple #[]) ∧ BAt w' B b 98 [pa, pn] (.pointer (some ⟨b, 0, none⟩)) (outE (runE (pairP th) (plainP th nm) 300 [] (.word x))) ∧ Fr B b w w' := by
  have WC := Lib.hid (word_calls E 300 w [] x hold hb (by simp) (by simp [need]) h0 h8)
  clear E hold hb h0 h8
  generalize runE (pairP th) (plainP th nm) 300 [] (.word x) = ans at *
  have hmf : ∀ (fn : Fn) (first cap : Array Value) (w : World), (Instr.makeFunc fn first cap).run Tryz.prog w = .ok (.func fn first cap) w := fun _ _ _ _ => rfl
  go_enter_defers Tryz.func39, Tryz.ntmps39
  go_wp2_with fail
  refine WC.out.mono ?_
  rintro e w1 ⟨rfl, hA, hS⟩
  cases ans with
  | ok t =>
    rw [wrE_ok]
    have HA := Lib.hid hA
    have HS := Lib.hid hS
    clear hA hS
    go_wp2_with fail
    refine leaves_cons (f := 52) (args := #[]) (by simp) (by simp [go_sem]) ?_
    refine (catch_idle _).mono ?_
    rintro e u' w2 ⟨rfl, rfl, k⟩
    have hBw := HA.out.lt
    simp only [Leaves, settle]
    exact ⟨_, results_none rfl _ _ _, rfl, HA.out.chg k, HS.out.trans (Fr.chg k hBw)⟩
  | error t =>
    rw [wrE_error]
    refine leaves_cons (f := 52) (args := #[]) (by simp) (by simp [go_sem]) ?_
    refine (catch_full _).mono ?_
    rintro e u' w2 ⟨rfl, rfl, k⟩
    have hBw := hA.lt
    simp only [Leaves, settle, List.dropWhile]
    exact ⟨_, results_none rfl _ _ _, rfl, hA.chg k, hS.trans (Fr.chg k hBw)⟩
theorem liesW (pa pn : Value) : liesAt Tryz.prog Tryz.prog.depth 98 (([pa, pn].length + 2) / Tryz.prog.cellsOf 98) 0 74 1 = true := by
  show liesAt Tryz.prog Tryz.prog.depth 98 (4 / Tryz.prog.cellsOf 98) 0 74 1 = true
  kernel_rfl
theorem cut_bytes (t : List UInt8) : (⟨t.toArray⟩ : ByteArray).extract 0 117 ++ ⟨#[46, 46, 46]⟩ = ⟨(t.take 117 ++ [46, 46, 46]).toArray⟩ := by
  apply ByteArray.ext
  simp
set_option maxHeartbeats 2000000 in
set_option maxRecDepth 100000 in
theorem word_shown {w : World} {pa pn : Value} {th : List Thing} {nm : List (List UInt8)} (E : Env w w.heap.size pa pn th nm) (x : Int) (h0 : 0 ≤ x) (h8 : x < 18446744073709551616) :
    Calls Tryz.prog 19 #[pa, pn, .int .u64 x] w fun e w' => e = .returned (.string ⟨(wordX (pairP th) (plainP th nm) x).toArray⟩) ∧ Chg [] w w' := by
  obtain ⟨qa, rfl⟩ : ∃ q, pa = .pointer q := by obtain ⟨ga, _, _, _, h, _⟩ := E.ar; exact ⟨_, h⟩
  obtain ⟨qn, rfl⟩ : ∃ q, pn = .pointer q := by
    rcases E.nam with ⟨h, _⟩ | ⟨g, _, _, h, _⟩
    · exact ⟨_, h⟩
    · exact ⟨_, h⟩
  have k1 : Chg [] w (w.alloc (.cells #[.pointer none, .slice none 0 0, .pointer qa, .pointer qn] 98)) := (Chg.refl [] w).alloc _
  have hne : ∀ b, (Value.slice none 0 0).ownBlock ≠ some b := fun b h => by simp [Value.ownBlock] at h
  have AC := Lib.hid (all_calls E k1 (b := w.heap.size) (.inl ⟨Nat.le_refl _, by decide, liesW _ _, .slice none 0 0, blk_new rfl, World.ownsRow_nil _ _ _ _, hne _⟩) x h0 h8)
  have hans : wordX (pairP th) (plainP th nm) x = cutS (outE (runE (pairP th) (plainP th nm) 300 [] (.word x))) := rfl
  rw [hans]
  generalize outE (runE (pairP th) (plainP th nm) 300 [] (.word x)) = t at *
  have K1 := Lib.hid k1
  clear E h0 h8 k1 hans hne
  by_cases hf : 120 < t.length
  · have c1 : decide ((120 : Int) < (t.length : Int)) = true := decide_eq_true (by omega)
    have c1' : decide (120 < t.length) = true := decide_eq_true hf
    have hcut : cutS t = t.take 117 ++ [46, 46, 46] := by unfold cutS; rw [if_pos hf]
    have HC := Lib.hid hcut
    have i1 : (117 : Int) ≤ (t.length : Int) := by omega
    have i2 : 117 ≤ t.length := by omega
    clear hcut hf
    go_enter Tryz.func19, Tryz.ntmps19
    go_wp2_with fail
    refine AC.out.mono ?_
    rintro e w2 ⟨rfl, hA, hS⟩
    have SC := Lib.hid (string_calls hA)
    have HS := Lib.hid (Chg.of_below (F := []) (K1.out.below.trans hS.below))
    clear hA hS
    go_wp2_with fail
    refine SC.out.mono ?_
    rintro e w3 ⟨rfl, hb3⟩
    have HB3 := Lib.hid hb3
    clear hb3
    go_wp2_with fail
    go_ret
    rw [HC.out]
    exact ⟨congrArg (fun z => Ending.returned (.string z)) (cut_bytes t), Chg.of_below (HS.out.below.trans HB3.out)⟩
  · have c1 : decide ((120 : Int) < (t.length : Int)) = false := decide_eq_false (by omega)
    have c1' : decide (120 < t.length) = false := decide_eq_false hf
    have hcut : cutS t = t := by unfold cutS; rw [if_neg hf]
    have HC := Lib.hid hcut
    clear hcut hf
    go_enter Tryz.func19, Tryz.ntmps19
    go_wp2_with fail
    refine AC.out.mono ?_
    rintro e w2 ⟨rfl, hA, hS⟩
    have SC := Lib.hid (string_calls hA)
    have HS := Lib.hid (Chg.of_below (F := []) (K1.out.below.trans hS.below))
    clear hA hS
    go_wp2_with fail
    refine SC.out.mono ?_
    rintro e w3 ⟨rfl, hb3⟩
    have HB3 := Lib.hid hb3
    clear hb3
    go_wp2_with fail
    go_ret
    rw [HC.out]
    exact ⟨rfl, Chg.of_below (HS.out.below.trans HB3.out)⟩
end Go.Proofs.YtomhkemdafiphaaGreatDoor.ShowC

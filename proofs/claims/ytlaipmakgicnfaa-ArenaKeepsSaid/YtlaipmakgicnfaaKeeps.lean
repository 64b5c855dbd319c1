/- The things of ArenaKeeps in memory, walked over; each states its conditions. -/
import Derived.Test.YtlaipmakgicnfaaArenaC6
import Derived.Test.YtlaipmakgicnfaaArenaSet
import Derived.Test.YtlaipmakgicnfaaOwn
namespace Go.Proofs.Ytlaipmakgicnfaa.Ar
open Go Go.RowKit Go.Proofs.Ytlaipmakgicnfaa.Heap Go.Proofs.Ytlaipmakgicnfaa.Word Go.Proofs.Ytlaipmakgicnfaa.Own
/-- where each thing lies, as a word -/
def placeAt (l : List Thing) (j : Nat) : Int := (tot (l.take j) : Int) * 8 + 1
def placesA (l : List Thing) : List Int := (List.range l.length).map (placeAt l)
theorem placesA_len (l : List Thing) : (placesA l).length = l.length := by simp [placesA]
theorem placesA_get (l : List Thing) (j : Nat) (hj : j < l.length) : (placesA l)[j]? = some (placeAt l j) := by simp [placesA, hj]
theorem placesA_snoc (l : List Thing) (o : Thing) : placesA (l ++ [o]) = placesA l ++ [(tot l : Int) * 8 + 1] := by
  unfold placesA
  rw [List.length_append, List.length_singleton, List.range_succ, List.map_append]
  congr 1
  · apply List.map_congr_left
    intro j hj
    have := List.mem_range.1 hj
    unfold placeAt
    rw [List.take_append_of_le_length (by omega)]
  · simp [placeAt]
theorem tot_take_le (l : List Thing) (j : Nat) : tot (l.take j) ≤ tot l := by
  have h := tot_append (l.take j) (l.drop j)
  rw [List.take_append_drop] at h
  omega
theorem look_at (l : List Thing) (j : Nat) (o : Thing) (h : l[j]? = some o) : look l (tot (l.take j)) = some o := by
  induction l generalizing j with
  | nil => simp at h
  | cons b r ih =>
    cases j with
    | zero => simp at h; subst h; simp [tot, look]
    | succ j =>
      have h' : r[j]? = some o := by simpa using h
      rw [List.take_succ_cons, tot_cons]
      simp only [look]
      rw [if_neg (by omega), if_neg (by omega), show b.2.length + 1 + tot (r.take j) - (b.2.length + 1) = tot (r.take j) by omega]
      exact ih j h'
theorem setT_at (l : List Thing) (j : Nat) (o : Thing) (h : l[j]? = some o) (i : Nat) (x : Int) : setT l (tot (l.take j)) i x = l.set j (o.1, o.2.set i x) := by
  induction l generalizing j with
  | nil => simp at h
  | cons b r ih =>
    cases j with
    | zero => simp at h; subst h; simp [tot, setT]
    | succ j =>
      have h' : r[j]? = some o := by simpa using h
      rw [List.take_succ_cons, tot_cons]
      simp only [setT]
      rw [if_neg (by omega), if_neg (by omega), show b.2.length + 1 + tot (r.take j) - (b.2.length + 1) = tot (r.take j) by omega, ih j h']
      rfl
theorem place_at' (l : List Thing) (ht : tot l ≤ 300) (j : Nat) (o : Thing) (h : l[j]? = some o) : place l (placeAt l j) = some o := by
  have := tot_take_le l j
  unfold place placeAt
  rw [if_pos ⟨by omega, by omega⟩, show (((tot (l.take j) : Int) * 8 + 1) / 8).toNat = tot (l.take j) by omega]
  exact look_at l j o h
theorem placeAt_wf (l : List Thing) (ht : tot l ≤ 300) (j : Nat) : 0 ≤ placeAt l j ∧ placeAt l j < 18446744073709551616 := by
  have := tot_take_le l j
  unfold placeAt
  omega
theorem setA_at (l : List Thing) (ht : tot l ≤ 300) (j : Nat) (o : Thing) (h : l[j]? = some o) (i : Nat) (x : Int) :
    setA l (placeAt l j) i x = if i < o.2.length then (l.set j (o.1, o.2.set i x), 0) else (l, 1) := by
  have := tot_take_le l j
  unfold setA
  rw [place_at' l ht j o h]
  simp only
  by_cases hi : i < o.2.length
  · rw [if_pos ⟨by omega, by omega⟩, if_pos hi, Int.toNat_natCast, show (placeAt l j / 8).toNat = tot (l.take j) by unfold placeAt; omega, setT_at l j o h]
  · rw [if_neg (by omega), if_neg hi]
theorem getA_at (l : List Thing) (ht : tot l ≤ 300) (j : Nat) (o : Thing) (h : l[j]? = some o) (i : Nat) (u : Int) (hu : o.2[i]? = some u) : getA l (placeAt l j) i = (u, 0) := by
  have hi : i < o.2.length := (List.getElem?_eq_some_iff.1 hu).1
  unfold getA
  rw [place_at' l ht j o h]
  simp only
  rw [if_pos ⟨by omega, by omega⟩, Int.toNat_natCast, List.getD_eq_getElem?_getD, hu]; rfl
theorem kindA_at (l : List Thing) (ht : tot l ≤ 300) (j : Nat) (o : Thing) (h : l[j]? = some o) : kindA l (placeAt l j) = o.1 := by
  unfold kindA; rw [place_at' l ht j o h]
theorem lenA_at (l : List Thing) (ht : tot l ≤ 300) (j : Nat) (o : Thing) (h : l[j]? = some o) : lenA l (placeAt l j) = o.2.length := by
  unfold lenA; rw [place_at' l ht j o h]
theorem placeAt_set (l : List Thing) (k : Nat) (o o' : Thing) (h : l[k]? = some o) (hl : o'.2.length = o.2.length) (j : Nat) : placeAt (l.set k o') j = placeAt l j := by
  have key : ∀ (l : List Thing) (k j : Nat), l[k]? = some o → tot ((l.set k o').take j) = tot (l.take j) := by
    intro l
    induction l with
    | nil => intro k j h; simp at h
    | cons b r ih =>
      intro k j h
      cases j with
      | zero => rfl
      | succ j =>
        cases k with
        | zero => simp at h; subst h; simp [tot_cons, hl]
        | succ k => simp only [List.set_cons_succ, List.take_succ_cons, tot_cons]; rw [ih k j (by simpa using h)]
  unfold placeAt
  rw [key l k j h]
theorem placesA_set (l : List Thing) (k : Nat) (o o' : Thing) (h : l[k]? = some o) (hl : o'.2.length = o.2.length) : placesA (l.set k o') = placesA l := by
  unfold placesA
  rw [List.length_set]
  exact List.map_congr_left fun j _ => placeAt_set l k o o' h hl j
theorem own_base {w : World} {base base' : Nat} {e : TypeId} {size n : Nat} {v : Value} {xs : List Value} (h : w.ownsRow base e size v n xs) (hb : base' ≤ base) : w.ownsRow base' e size v n xs := by
  refine ⟨h.1, h.2.imp id ?_⟩
  rintro ⟨g, cap, cur, h1, h2, h3⟩
  exact ⟨g, cap, cur, h1, Nat.le_trans hb h2, h3⟩
/-- the things made so far, their places, and a copy of the words of each -/
structure KS (base g bw bh : Nat) (W : World) (vP vW : Value) (l : List Thing) (rows : List Value) : Prop where
  ar : IsAr W g bw bh 300 l
  kd : ∀ (j : Nat) (o : Thing), l[j]? = some o → o.1 = (j : Int) % 9 + 1
  pl : W.ownsRow base 31 1 vP l.length (nums .u64 (placesA l))
  wt : W.ownsRow base 28 1 vW l.length rows
  rl : rows.length = l.length
  rw : ∀ (j : Nat) (o : Thing) (r : Value), l[j]? = some o → rows[j]? = some r → ∃ A c, r = .slice A o.2.length c ∧ W.ownsRow base 31 1 r o.2.length (nums .u64 o.2)
  d1 : ∀ b, vP.ownBlock = some b → vW.ownBlock ≠ some b
  d2 : ∀ (j : Nat) (r : Value) (b : Nat), rows[j]? = some r → r.ownBlock = some b → vP.ownBlock ≠ some b ∧ vW.ownBlock ≠ some b
  d3 : ∀ (i j : Nat) (r s : Value) (b : Nat), i ≠ j → rows[i]? = some r → rows[j]? = some s → r.ownBlock = some b → s.ownBlock ≠ some b
  far : ∀ b, b ∈ [g, bw, bh] → b < base
  bs : base ≤ W.heap.size
theorem KS.keep {base g bw bh : Nat} {W W' : World} {vP vW : Value} {l : List Thing} {rows : List Value} (h : KS base g bw bh W vP vW l rows) (c : Chg [] W W') : KS base g bw bh W' vP vW l rows :=
  ⟨h.ar.sub c, h.kd, own_keep h.pl c (fun _ _ hm => by cases hm), own_keep h.wt c (fun _ _ hm => by cases hm), h.rl,
    fun j o r h1 h2 => by obtain ⟨A, cc, e, ho⟩ := h.rw j o r h1 h2; exact ⟨A, cc, e, own_keep ho c (fun _ _ hm => by cases hm)⟩, h.d1, h.d2, h.d3, h.far, Nat.le_trans h.bs c.size⟩
theorem snoc_get {α : Type} {l : List α} {a b : α} {j : Nat} (h : (l ++ [a])[j]? = some b) : (j < l.length ∧ l[j]? = some b) ∨ (j = l.length ∧ b = a) := by
  have hj : j < (l ++ [a]).length := (List.getElem?_eq_some_iff.1 h).1
  simp at hj
  by_cases h1 : j < l.length
  · rw [List.getElem?_append_left h1] at h; exact .inl ⟨h1, h⟩
  · have : j = l.length := by omega
    subst this
    simp at h
    exact .inr ⟨rfl, h.symm⟩
theorem KS.step {base g bw bh : Nat} {W W4 W4a w5 w6 W6a w7 : World} {vP vW vP' vW' rv : Value} {l : List Thing} {rows : List Value} (h : KS base g bw bh W vP vW l rows) (ys : List Int)
    (A4 : IsAr W4 g bw bh 300 (l ++ [((l.length : Int) % 9 + 1, ys)])) (c4 : Chg [g, bw, bh] W W4) (a4 : Chg [] W4 W4a)
    (ho5 : w5.ownsRow base 31 1 vP' (l.length + 1) (nums .u64 (placesA l) ++ [.int .u64 ((tot l : Int) * 8 + 1)])) (c5 : Chg (ob vP) W4a w5) (e5 : vP'.ownBlock = vP.ownBlock ∨ vP'.ownBlock = some W4a.heap.size)
    (hrv : ∃ A c, rv = .slice A ys.length c) (ho6 : w6.ownsRow w5.heap.size 31 1 rv ys.length (nums .u64 ys)) (c6 : Chg [] w5 w6) (a6 : Chg [] w6 W6a)
    (ho7 : w7.ownsRow base 28 1 vW' (l.length + 1) (rows ++ [rv])) (c7 : Chg (ob vW) W6a w7) (e7 : vW'.ownBlock = vW.ownBlock ∨ vW'.ownBlock = some W6a.heap.size) :
    KS base g bw bh w7 vP' vW' (l ++ [((l.length : Int) % 9 + 1, ys)]) (rows ++ [rv]) ∧ w5.heap.size ≤ w7.heap.size ∧ W.heap.size ≤ w5.heap.size := by
  have s4 := c4.size
  have s4a := a4.size
  have s5 := c5.size
  have s6 := c6.size
  have s6a := a6.size
  have s7 := c7.size
  have pb : ∀ b, vP.ownBlock = some b → base ≤ b ∧ b < W.heap.size := fun b hb => h.pl.lt b hb
  have wb : ∀ b, vW.ownBlock = some b → base ≤ b ∧ b < W.heap.size := fun b hb => h.wt.lt b hb
  have rb : ∀ (j : Nat) (r : Value) (b : Nat), rows[j]? = some r → r.ownBlock = some b → base ≤ b ∧ b < W.heap.size := fun j r b hj hb => by
    have hjl : j < l.length := by have := (List.getElem?_eq_some_iff.1 hj).1; rw [h.rl] at this; exact this
    obtain ⟨A, c, e, ho⟩ := h.rw j l[j] r (List.getElem?_eq_getElem hjl) hj
    exact ho.lt b hb
  have nb : ∀ b, rv.ownBlock = some b → w5.heap.size ≤ b ∧ b < w6.heap.size := fun b hb => ho6.lt b hb
  have nF : ∀ b, base ≤ b → b ∉ [g, bw, bh] := fun b hb hm => by have := h.far b hm; omega
  refine ⟨⟨?_, ?_, ?_, ?_, ?_, ?_, ?_, ?_, ?_, h.far, by have := h.bs; omega⟩, by omega, by omega⟩
  · have a5 := (A4.sub a4).keep c5 (fun hm => by have := (pb _ (mem_ob.1 hm)).1; have := h.far g (by simp); omega) (fun hm => by have := (pb _ (mem_ob.1 hm)).1; have := h.far bw (by simp); omega) (fun hm => by have := (pb _ (mem_ob.1 hm)).1; have := h.far bh (by simp); omega)
    exact ((a5.sub c6).sub a6).keep c7 (fun hm => by have := (wb _ (mem_ob.1 hm)).1; have := h.far g (by simp); omega) (fun hm => by have := (wb _ (mem_ob.1 hm)).1; have := h.far bw (by simp); omega) (fun hm => by have := (wb _ (mem_ob.1 hm)).1; have := h.far bh (by simp); omega)
  · intro j o hj
    rcases snoc_get hj with ⟨_, h1⟩ | ⟨rfl, rfl⟩
    · exact h.kd j o h1
    · rfl
  · rw [placesA_snoc, List.length_append]
    have := own_keep (own_keep (own_keep ho5 c6 (fun _ _ hm => by cases hm)) a6 (fun _ _ hm => by cases hm)) c7 (fun b hb hm => by
      have hw := mem_ob.1 hm
      rcases e5 with e | e
      · rw [e] at hb; exact h.d1 b hb hw
      · rw [e] at hb; cases hb; have := (wb _ hw).2; omega)
    simpa [nums] using this
  · rw [List.length_append]; exact ho7
  · rw [List.length_append, List.length_append, h.rl]; rfl
  · intro j o r hj hr
    rcases snoc_get hj with ⟨hjl, h1⟩ | ⟨rfl, rfl⟩
    · have hr' : rows[j]? = some r := by
        rcases snoc_get hr with ⟨_, h2⟩ | ⟨h2, _⟩
        · exact h2
        · rw [h.rl] at h2; omega
      obtain ⟨A, c, e, ho⟩ := h.rw j o r h1 hr'
      refine ⟨A, c, e, ?_⟩
      have o4 := own_keep ho c4 (fun b hb => nF b (ho.lt b hb).1)
      have o5 := own_keep (own_keep o4 a4 (fun _ _ hm => by cases hm)) c5 (fun b hb hm => (h.d2 j r b hr' hb).1 (mem_ob.1 hm))
      exact own_keep (own_keep (own_keep o5 c6 (fun _ _ hm => by cases hm)) a6 (fun _ _ hm => by cases hm)) c7 (fun b hb hm => (h.d2 j r b hr' hb).2 (mem_ob.1 hm))
    · rcases snoc_get hr with ⟨h2, _⟩ | ⟨_, rfl⟩
      · rw [h.rl] at h2; omega
      · obtain ⟨A, c, e⟩ := hrv
        refine ⟨A, c, e, ?_⟩
        have o6 := own_base ho6 (base' := base) (by have := h.bs; omega)
        exact own_keep (own_keep o6 a6 (fun _ _ hm => by cases hm)) c7 (fun b hb hm => by have := (nb b hb).1; have := (wb b (mem_ob.1 hm)).2; omega)
  · intro b hb hw
    rcases e5 with e | e <;> rw [e] at hb <;> rcases e7 with e' | e' <;> rw [e'] at hw
    · exact h.d1 b hb hw
    · cases hw; have := (pb _ hb).2; omega
    · cases hb; have := (wb _ hw).2; omega
    · have := (ho5.lt _ e).2; cases hb; simp at hw; omega
  · intro j r b hj hb
    rcases snoc_get hj with ⟨_, h1⟩ | ⟨_, rfl⟩
    · obtain ⟨q1, q2⟩ := h.d2 j r b h1 hb
      have := (rb j r b h1 hb).2
      refine ⟨?_, ?_⟩
      · rcases e5 with e | e <;> rw [e]
        · exact q1
        · intro hh; cases hh; omega
      · rcases e7 with e | e <;> rw [e]
        · exact q2
        · intro hh; cases hh; omega
    · obtain ⟨n1, n2⟩ := nb b hb
      refine ⟨?_, ?_⟩
      · rcases e5 with e | e <;> rw [e] <;> intro hh
        · have := (pb b hh).2; omega
        · have hlt := (ho5.lt b (by rw [e]; exact hh)).2
          omega
      · rcases e7 with e | e <;> rw [e] <;> intro hh
        · have := (wb b hh).2; omega
        · cases hh; omega
  · intro i j r s b hij hi hj hb hs
    rcases snoc_get hi with ⟨i1, h1⟩ | ⟨i1, rfl⟩ <;> rcases snoc_get hj with ⟨j1, h2⟩ | ⟨j1, rfl⟩
    · exact h.d3 i j r s b hij h1 h2 hb hs
    · have := (rb i r b h1 hb).2; have := (nb b hs).1; omega
    · have := (rb j s b h2 hs).2; have := (nb b hb).1; omega
    · omega
theorem KS.same {base g bw bh : Nat} {W W' : World} {vP vW : Value} {l : List Thing} {rows : List Value} (h : KS base g bw bh W vP vW l rows) (A : IsAr W' g bw bh 300 l) (c : Chg [bw] W W') : KS base g bw bh W' vP vW l rows := by
  have nF : ∀ b, base ≤ b → b ∉ [bw] := fun b hb hm => by have := h.far bw (by simp); simp at hm; omega
  exact ⟨A, h.kd, own_keep h.pl c (fun b hb => nF b (h.pl.lt b hb).1), own_keep h.wt c (fun b hb => nF b (h.wt.lt b hb).1), h.rl,
    fun j o r h1 h2 => by obtain ⟨B, cc, e, ho⟩ := h.rw j o r h1 h2; exact ⟨B, cc, e, own_keep ho c (fun b hb => nF b (ho.lt b hb).1)⟩, h.d1, h.d2, h.d3, h.far, Nat.le_trans h.bs c.size⟩
theorem KS.set {base g bw bh : Nat} {W W' : World} {vP vW : Value} {l : List Thing} {rows : List Value} (h : KS base g bw bh W vP vW l rows) (k : Nat) (o : Thing) (hk : l[k]? = some o) (i : Nat) (x : Int) (gb c : Nat)
    (hr : rows[k]? = some (.slice (some ⟨gb, 0, none⟩) o.2.length c)) (A : IsAr W' g bw bh 300 (l.set k (o.1, o.2.set i x))) (c' : Chg [bw] W W') :
    KS base g bw bh (W'.setCell ⟨gb, i, none⟩ (.int .u64 x)) vP vW (l.set k (o.1, o.2.set i x)) rows := by
  have hkl : k < l.length := (List.getElem?_eq_some_iff.1 hk).1
  have nF : ∀ b, base ≤ b → b ∉ [bw] := fun b hb hm => by have := h.far bw (by simp); simp at hm; omega
  obtain ⟨B0, c0, e0, ho0⟩ := h.rw k o _ hk hr
  cases e0
  have hgb : base ≤ gb ∧ gb < W.heap.size := ho0.lt gb rfl
  have c2 : Chg [gb] W' (W'.setCell ⟨gb, i, none⟩ (.int .u64 x)) := (Chg.refl [gb] W').set ⟨gb, i, none⟩ (.int .u64 x) (.inl (by simp))
  obtain ⟨dp, dw⟩ := h.d2 k _ gb hr rfl
  refine ⟨A.keep c2 ?_ ?_ ?_, ?_, ?_, ?_, by rw [List.length_set]; exact h.rl, ?_, h.d1, h.d2, h.d3, h.far, Nat.le_trans h.bs (Nat.le_trans c'.size c2.size)⟩
  · intro hm; simp at hm; have := h.far g (by simp); omega
  · intro hm; simp at hm; have := h.far bw (by simp); omega
  · intro hm; simp at hm; have := h.far bh (by simp); omega
  · intro j p hj
    rw [List.getElem?_set] at hj
    split at hj
    · rename_i hjk
      subst hjk
      first | (rw [if_pos hkl] at hj) | skip
      cases hj
      exact h.kd k o hk
    · exact h.kd j p hj
  · rw [List.length_set, placesA_set l k o (o.1, o.2.set i x) hk (by simp)]
    exact own_keep (own_keep h.pl c' (fun b hb => nF b (h.pl.lt b hb).1)) c2 (fun b hb hm => by simp at hm; subst hm; exact dp hb)
  · rw [List.length_set]
    exact own_keep (own_keep h.wt c' (fun b hb => nF b (h.wt.lt b hb).1)) c2 (fun b hb hm => by simp at hm; subst hm; exact dw hb)
  · intro j p r hj hr'
    rw [List.getElem?_set] at hj
    split at hj
    · rename_i hjk
      subst hjk
      first | (rw [if_pos hkl] at hj) | skip
      cases hj
      rw [hr] at hr'
      cases hr'
      refine ⟨some ⟨gb, 0, none⟩, c, by simp, ?_⟩
      have := own_set (own_keep ho0 c' (fun b hb => nF b (ho0.lt b hb).1)) i (.int .u64 x)
      simpa [nums, List.map_set] using this
    · rename_i hjk
      obtain ⟨B, cc, e, ho⟩ := h.rw j p r hj hr'
      refine ⟨B, cc, e, own_keep (own_keep ho c' (fun b hb => nF b (ho.lt b hb).1)) c2 (fun b hb hm => ?_)⟩
      simp at hm
      subst hm
      exact h.d3 k j _ r b hjk hr hr' rfl hb
end Go.Proofs.Ytlaipmakgicnfaa.Ar

import Derived.Test.YtomhkemdafiphaaGreatDoorReadP3
import Derived.Test.YtomhkemdafiphaaGreatDoorShowP
namespace Go.Proofs.YtomhkemdafiphaaGreatDoor.ReadP
open Go.Proofs.YtomhkemdafiphaaGreatDoor.LexP
theorem bool_n (full : List UInt8) : ∀ (n i : Nat) (ts : List Tok), full.length - i ≤ n → i ≤ full.length → lexL i (full.drop i) = .ok ts → ∀ t ∈ ts, t.kind = 5 → t.n = 0 ∨ t.n = 1
  | n, i, ts, hn, hi, h, t, ht, h4 => by
    rw [lexL_pass] at h
    have hl := pass_le false (full.drop i)
    have hs := pass_suffix false (full.drop i)
    rw [List.drop_drop] at hs
    rw [List.length_drop] at h hl hs
    generalize hj : i + (full.length - i - (pass false (full.drop i)).length) = j at h hs
    cases hp : pass false (full.drop i) with
    | nil => rw [hp, lexL_nil] at h; injection h with h; subst h; cases ht
    | cons c r =>
      have hh := pass_head false _ c r hp
      rw [hp] at h hl hs hj
      simp only [List.length_cons] at hl hj
      rw [lexL_tok _ c r (pass_fix c r hh.1 hh.2)] at h
      cases hf : firstP (c :: r) with
      | error e => rw [hf] at h; cases h
      | ok x =>
        obtain ⟨t0, k⟩ := x
        have hk := firstP_pos hf
        rw [hf] at h
        simp only at h
        have hs0 := hs
        rw [hs, List.drop_drop] at h
        match n, hn with
        | 0, hn => omega
        | n + 1, hn =>
          cases hr : lexL (j + k) (full.drop (j + k)) with
          | error e => rw [hr] at h; cases h
          | ok ts' =>
            rw [hr] at h
            injection h with h
            subst h
            rcases List.mem_cons.1 ht with rfl | ht
            · simp only at h4 ⊢
              rw [firstP_eq] at hf
              split at hf
              · injection hf with hf; injection hf with hf _; rw [← hf] at h4; simp at h4
              split at hf
              · injection hf with hf; injection hf with hf _; rw [← hf] at h4; simp at h4
              split at hf
              · injection hf with hf; injection hf with hf _; rw [← hf] at h4; simp at h4
              split at hf
              · split at hf
                · injection hf with hf; injection hf with hf _; rw [← hf]; exact .inr rfl
                · split at hf
                  · injection hf with hf; injection hf with hf _; rw [← hf]; exact .inl rfl
                  · cases hf
              split at hf
              · cases hf
              · split at hf
                · cases hf
                · rename_i t2 htk
                  injection hf with hf; injection hf with hf _; subst hf
                  unfold tokP at htk
                  split at htk
                  · split at htk
                    · cases htk
                    · injection htk with htk
                      rw [← htk] at h4
                      simp at h4
                  · split at htk
                    · cases htk
                    · injection htk with htk
                      rw [← htk] at h4
                      simp at h4
            · exact bool_n full n (j + k) ts' (by omega) (by omega) hr t ht h4
/-- what a datum is, but for its place and its list -/
def Fine (x : Nd) : Prop := (x.s = [] ∨ x.kind = 3) ∧ (x.kind = 4 ∨ x.l = []) ∧ (x.kind = 1 ∨ (x.kind = 2 ∧ (x.n = 0 ∨ x.n = 1)) ∨ ((x.kind = 3 ∨ x.kind = 4) ∧ x.n = 0)) ∧ (-1099511627776 < x.n ∧ x.n < 1099511627776)
def tot (row : List Nd) (tops : List Int) (os : List Pt) (q : Int) : Nat := (row.flatMap (·.l)).count q + tops.count q + (os.flatMap (·.l)).count q
def one_ (n : Nat) (q : Int) : Nat := if 0 ≤ q ∧ q < n then 1 else 0
theorem one_succ (n : Nat) (q : Int) : one_ (n + 1) q = one_ n q + [(n : Int)].count q := by
  unfold one_
  rw [List.count_singleton]
  by_cases h : (n : Int) = q
  · subst h
    rw [if_pos (by omega), if_neg (by omega), if_pos (by simp)]
  · rw [if_neg (by simpa using h : ¬ ((n : Int) == q) = true)]
    by_cases h2 : 0 ≤ q ∧ q < n
    · rw [if_pos h2, if_pos (by omega)]
    · rw [if_neg h2, if_neg (by omega)]
structure Wh (row : List Nd) (tops : List Int) (os : List Pt) : Prop where
  cnt : ∀ q : Int, tot row tops os q = one_ row.length q
  idx : ∀ (i : Nat) x, row[i]? = some x → ∀ p ∈ x.l, 0 ≤ p ∧ p < i
  srt : tops.Pairwise (· < ·)
  lst : os = [] → row = [] ∨ tops.getLast? = some ((row.length : Int) - 1)
  fine : ∀ x ∈ row, Fine x
theorem in_one {n : Nat} {q : Int} {l : List Int} {c : Nat} (h : c + l.count q = one_ n q) (hm : q ∈ l) : 0 ≤ q ∧ q < n := by
  have := List.count_pos_iff.2 hm
  unfold one_ at h
  split at h
  · assumption
  · omega
theorem tot_row (row : List Nd) (x : Nd) (tops : List Int) (os : List Pt) (q : Int) : tot (row ++ [x]) tops os q = tot row tops os q + x.l.count q := by
  unfold tot
  rw [List.flatMap_append, List.flatMap_singleton, List.count_append]
  omega
theorem idx_snoc {row : List Nd} {x : Nd} (h : ∀ (i : Nat) y, row[i]? = some y → ∀ p ∈ y.l, 0 ≤ p ∧ p < i) (hx : ∀ p ∈ x.l, 0 ≤ p ∧ p < row.length) : ∀ (i : Nat) y, (row ++ [x])[i]? = some y → ∀ p ∈ y.l, 0 ≤ p ∧ p < i := by
  intro i y hi
  rw [List.getElem?_append] at hi
  split at hi
  · exact h i y hi
  · rename_i hlt
    have hi0 : i - row.length = 0 := by have := (List.getElem?_eq_some_iff.1 hi).1; simp at this; omega
    rw [hi0] at hi
    have : x = y := by simpa using hi
    subst this
    intro p hp
    have := hx p hp
    omega
theorem put_wh : ∀ (os : List Pt) (row : List Nd) (tops : List Int) (x : Nd), (∀ q, tot row tops os q + x.l.count q = one_ row.length q) → (∀ (i : Nat) y, row[i]? = some y → ∀ p ∈ y.l, 0 ≤ p ∧ p < i) → tops.Pairwise (· < ·) → (∀ y ∈ row, Fine y) → Fine x →
    Wh (putS row tops os x).1 (putS row tops os x).2.1 (putS row tops os x).2.2
  | [], row, tops, x, hc, hi, hs, hf, hx => by
    have hxl : ∀ p ∈ x.l, 0 ≤ p ∧ p < row.length := fun p hp => in_one (hc p) hp
    have htl : ∀ p ∈ tops, p < row.length := fun p hp => by
      have h1 := hc p
      have h2 := List.count_pos_iff.2 hp
      unfold tot at h1
      unfold one_ at h1
      split at h1
      · rename_i h; exact h.2
      · omega
    simp only [putS]
    refine ⟨fun q => ?_, idx_snoc hi hxl, ?_, fun _ => .inr ?_, fun y hy => ?_⟩
    · rw [tot_row, List.length_append, List.length_singleton, one_succ, ← hc q]
      unfold tot
      rw [List.count_append]
      omega
    · exact List.pairwise_append.2 ⟨hs, by simp, fun a ha b hb => by
        have : b = (row.length : Int) := by simpa using hb
        rw [this]; exact htl a ha⟩
    · rw [List.getLast?_append, List.getLast?_singleton, List.length_append, List.length_singleton]
      simp
    · rcases List.mem_append.1 hy with hy | hy
      · exact hf y hy
      · rw [List.mem_singleton.1 hy]; exact hx
  | o :: os, row, tops, x, hc, hi, hs, hf, hx => by
    have hxl : ∀ p ∈ x.l, 0 ≤ p ∧ p < row.length := fun p hp => in_one (hc p) hp
    have hf2 : ∀ y ∈ row ++ [x], Fine y := fun y hy => by
      rcases List.mem_append.1 hy with hy | hy
      · exact hf y hy
      · rw [List.mem_singleton.1 hy]; exact hx
    have hcc : ∀ q, tot (row ++ [x]) tops os q + (o.l ++ [(row.length : Int)]).count q = one_ (row ++ [x]).length q := fun q => by
      rw [tot_row, List.length_append, List.length_singleton, one_succ, ← hc q, List.count_append]
      unfold tot
      rw [List.flatMap_cons, List.count_append]
      omega
    rw [putS]
    split
    · exact put_wh os (row ++ [x]) tops ⟨4, o.at_, 0, [], o.l ++ [(row.length : Int)]⟩ hcc (idx_snoc hi hxl) hs hf2 ⟨.inl rfl, .inl rfl, .inr (.inr ⟨.inr rfl, rfl⟩), by simp⟩
    · refine ⟨fun q => ?_, idx_snoc hi hxl, hs, (fun h => by cases h), hf2⟩
      simp only
      rw [← hcc q]
      unfold tot
      simp only [List.flatMap_cons, List.count_append]
      omega
theorem tok_wh {st st' : List Nd × List Int × List Pt} {t : Tok} (h : Wh st.1 st.2.1 st.2.2) (h5 : t.kind = 5 → t.n = 0 ∨ t.n = 1) (h4 : t.kind = 4 → -1099511627776 < t.n ∧ t.n < 1099511627776) (hs : tokS st t = .ok st') : Wh st'.1 st'.2.1 st'.2.2 := by
  obtain ⟨row, tops, os⟩ := st
  simp only at h
  have nil : ∀ q, tot row tops os q + ([] : List Int).count q = one_ row.length q := fun q => by rw [h.cnt q]; rfl
  unfold tokS at hs
  split at hs
  · rename_i hk
    injection hs with hs; subst hs
    exact put_wh os row tops _ nil h.idx h.srt h.fine ⟨.inl rfl, .inr rfl, .inl rfl, h4 hk⟩
  split at hs
  · rename_i _ hk
    injection hs with hs; subst hs
    refine put_wh os row tops _ nil h.idx h.srt h.fine ⟨.inl rfl, .inr rfl, .inr (.inl ⟨rfl, h5 hk⟩), ?_⟩
    rcases h5 hk with h | h <;> simp only [h] <;> decide
  split at hs
  · injection hs with hs; subst hs
    exact put_wh os row tops _ nil h.idx h.srt h.fine ⟨.inr rfl, .inr rfl, .inr (.inr ⟨.inl rfl, rfl⟩), by simp⟩
  split at hs
  · cases os with
    | nil => cases hs
    | cons o os =>
      simp only at hs
      split at hs
      · cases hs
      · injection hs with hs; subst hs
        refine put_wh os row tops _ (fun q => ?_) h.idx h.srt h.fine ⟨.inl rfl, .inl rfl, .inr (.inr ⟨.inr rfl, rfl⟩), by simp⟩
        have := h.cnt q
        unfold tot at this ⊢
        rw [List.flatMap_cons, List.count_append] at this
        simp only
        omega
  split at hs
  · cases hs
  split at hs
  · injection hs with hs; subst hs
    refine put_wh (⟨t.pos, true, []⟩ :: os) row tops _ (fun q => ?_) h.idx h.srt h.fine ⟨.inr rfl, .inr rfl, .inr (.inr ⟨.inl rfl, rfl⟩), by simp⟩
    have := h.cnt q
    unfold tot at this ⊢
    rw [List.flatMap_cons, List.nil_append]
    simpa using this
  · injection hs with hs; subst hs
    refine ⟨fun q => ?_, h.idx, h.srt, (fun h => by cases h), h.fine⟩
    have := h.cnt q
    unfold tot at this ⊢
    simp only [List.flatMap_cons, List.nil_append]
    exact this
theorem toks_wh : ∀ (ts : List Tok) (st st' : List Nd × List Int × List Pt), Wh st.1 st.2.1 st.2.2 → (∀ t ∈ ts, (t.kind = 5 → t.n = 0 ∨ t.n = 1) ∧ (t.kind = 4 → -1099511627776 < t.n ∧ t.n < 1099511627776)) → toksS st ts = .ok st' → Wh st'.1 st'.2.1 st'.2.2
  | [], st, st', h, _, hs => by injection hs with hs; subst hs; exact h
  | t :: ts, st, st', h, ht, hs => by
    unfold toksS at hs
    split at hs
    · cases hs
    · rename_i st1 h1
      have := ht t (List.mem_cons_self ..)
      exact toks_wh ts st1 st' (tok_wh h this.1 this.2 h1) (fun t ht' => ht t (List.mem_cons_of_mem _ ht')) hs
theorem stand_n (full : List UInt8) : ∀ (ts : List Tok) (last : Int), Stand full last ts → ∀ t ∈ ts, t.kind = 4 → -1099511627776 < t.n ∧ t.n < 1099511627776
  | [], _, _, t, ht => by cases ht
  | t0 :: ts, last, h, t, ht => by
    obtain ⟨_, _, _, h3, _, h5⟩ := h
    rcases List.mem_cons.1 ht with rfl | ht
    · exact h3.1
    · exact stand_n full ts _ h5 t ht
/-- what was read: each datum once, in a list behind it or by itself -/
theorem read_wh {l : List UInt8} {row : List Nd} {tops : List Int} (h : readF l = .ok (row, tops)) : Wh row tops [] := by
  unfold readF at h
  cases hL : lexF l with
  | error x => rw [hL] at h; cases h
  | ok ts =>
    rw [hL] at h
    simp only at h
    unfold readT at h
    have hn : ∀ t ∈ ts, (t.kind = 5 → t.n = 0 ∨ t.n = 1) ∧ (t.kind = 4 → -1099511627776 < t.n ∧ t.n < 1099511627776) := by
      unfold lexF at hL
      split at hL
      · cases hL
      · have hs := stand_ok l l.length 0 ts (-1) (by omega) (by omega) (by omega) (by rw [List.drop_zero]; exact hL)
        exact fun t ht => ⟨bool_n l l.length 0 ts (by omega) (by omega) (by rw [List.drop_zero]; exact hL) t ht, stand_n l ts _ hs t ht⟩
    cases hT : toksS ([], [], []) ts with
    | error e => rw [hT] at h; cases h
    | ok st =>
      rw [hT] at h
      simp only at h
      have hw := toks_wh ts _ st ⟨fun q => by unfold tot one_; simp; try omega, fun i x hx => by simp at hx, List.Pairwise.nil, fun _ => .inl rfl, fun x hx => by cases hx⟩ hn hT
      unfold endS at h
      split at h
      · rename_i ho
        injection h with h
        injection h with h1 h2
        rw [ho, h1, h2] at hw
        exact hw
      · cases h
theorem seen_all : ∀ (ps seen : List Int) (i : Nat), (∀ p ∈ ps, 0 ≤ p ∧ p < i) → (seen ++ ps).Nodup → seenF i seen ps = some (seen ++ ps)
  | [], seen, i, _, _ => by simp [seenF]
  | p :: ps, seen, i, h, hn => by
    have hp := h p (List.mem_cons_self ..)
    have hn2 : (seen ++ [p] ++ ps).Nodup := by simpa using hn
    have hnot : p ∉ seen := fun hm => by
      have := (List.nodup_append.1 hn).2.2 p hm p (List.mem_cons_self ..)
      exact this rfl
    rw [seenF, if_neg (by rintro (h | h | h); omega; omega; contradiction), seen_all ps (seen ++ [p]) i (fun q hq => h q (List.mem_cons_of_mem _ hq)) hn2]
    simp
/-- what was read may be a row -/
theorem may_whole {row : List Nd} {tops : List Int} (h : Wh row tops []) (hp : ∀ x ∈ row, 0 ≤ x.pos) : mayF 0 [] row = true := by
  have hnd : (row.flatMap (·.l)).Nodup := List.nodup_iff_count.2 fun q => by
    have h1 := h.cnt q
    unfold tot one_ at h1
    split at h1 <;> omega
  have key : ∀ (d k : Nat), d + k = row.length → mayF k ((row.take k).flatMap (·.l)) (row.drop k) = true := by
    intro d
    induction d with
    | zero => intro k hk; rw [List.drop_of_length_le (by omega)]; rfl
    | succ d ih =>
      intro k hk
      obtain ⟨x, hx⟩ : ∃ x, row[k]? = some x := ⟨_, List.getElem?_eq_getElem (by omega)⟩
      have hxm := List.mem_of_getElem? hx
      have e1 : (row.take (k + 1)).flatMap (·.l) = (row.take k).flatMap (·.l) ++ x.l := by
        rw [List.take_add_one, hx]; simp
      have hsub : ((row.take k).flatMap (·.l) ++ x.l).Nodup := by
        rw [← e1]
        refine hnd.sublist ?_
        conv => rhs; rw [← List.take_append_drop (k + 1) row]
        rw [List.flatMap_append]
        exact List.sublist_append_left _ _
      rw [may_at hx, seen_all x.l _ k (h.idx k x hx) hsub]
      have hr : rightB x = true := by
        obtain ⟨f1, f2, f3, _⟩ := h.fine x hxm
        have h0 := hp x hxm
        unfold rightB
        have c0 : decide (x.pos < 0) = false := decide_eq_false (by omega)
        rw [c0]
        have g1 : (x.s == [] || x.kind == 3) = true := by rcases f1 with h | h <;> simp [h]
        have g2 : (x.kind == 4 || x.l == []) = true := by rcases f2 with h | h <;> simp [h]
        rw [g1, g2]
        rcases f3 with h | ⟨h, h2⟩ | ⟨h, h2⟩
        · simp [h]
        · rcases h2 with h2 | h2 <;> simp [h, h2]
        · rcases h with h | h <;> simp [h, h2]
      rw [hr, Bool.true_and]
      have := ih (k + 1) (by omega)
      rw [e1] at this
      exact this
  have := key row.length 0 (by omega)
  simpa using this
end Go.Proofs.YtomhkemdafiphaaGreatDoor.ReadP

/- What is shown is read again as it was, in plain lists; each states its conditions. -/
import Derived.Test.YtomhkemdafiphaaGreatDoorShowP
import Derived.Test.YtomhkemdafiphaaGreatDoorReadQ6
namespace Go.Proofs.YtomhkemdafiphaaGreatDoor.ShowP
open Go.Proofs.YtomhkemdafiphaaGreatDoor.LexP Go.Proofs.YtomhkemdafiphaaGreatDoor.ReadP Go.Proofs.YtomhkemdafiphaaGreatDoor.TreeP
open Go.Lib (itoa decDigits)
theorem dec_eq : ∀ (f n : Nat), 0 < f → n < 10 ^ f → decN f n = decDigits n
  | 0, _, h, _ => absurd h (by decide)
  | f + 1, n, _, h => by
    unfold decN
    rw [decDigits]
    by_cases h10 : n < 10
    · rw [if_pos h10, dif_pos h10]; rfl
    · rw [if_neg h10, dif_neg h10]
      have hf : 0 < f := by
        rcases Nat.eq_zero_or_pos f with h0 | h0
        · subst h0; simp at h; omega
        · exact h0
      rw [dec_eq f (n / 10) hf (by rw [Nat.pow_succ] at h; omega)]
      rfl
theorem digL_itoa (v : Int) (h0 : -1099511627776 < v) (h1 : v < 1099511627776) : digL v = itoa v := by
  have hp : (10 : Nat) ^ 14 = 100000000000000 := by decide
  unfold digL itoa
  rw [dec_eq 14 _ (by decide) (by omega)]
  split
  · rfl
  · rw [show v.natAbs = v.toNat from by omega]
/-- something that stands in a row, and its text -/
structure It where
  f : Nat → List Nd × Nd
  txt : List UInt8
  d : Nat
def delim (e : UInt8) : Prop := e = 32 ∨ e = 41 ∨ e = 10
def It.inner (t : It) : Nat := (t.f 0).1.length
def It.size (t : It) : Nat := t.inner + 1
/-- it is shown as its text, and its text is read as it -/
structure It.Ok (t : It) : Prop where
  len : ∀ n, (t.f n).1.length = t.inner
  reads : ∀ i, ∃ X f', (∀ e r, delim e → lexL i (t.txt ++ e :: r) = comb X (lexL (i + t.txt.length) (e :: r))) ∧ Puts t.d X f' ∧ Like t.f f'
  shows : ∀ (R : List Nd) n, (∀ j x, ((t.f n).1 ++ [(t.f n).2])[j]? = some x → ∃ y, R[n + j]? = some y ∧ noP y = x) → ∀ fuel, n + t.inner < fuel → datX R fuel ((n + t.inner : Nat) : Int) = t.txt
  leaf : (t.f 0).2.kind = 3 → ∀ n, t.f n = ([], ⟨3, 0, 0, (t.f 0).2.s, []⟩)
  kind : ∀ n, (t.f n).2.kind = (t.f 0).2.kind
def rowsOf (n : Nat) : List It → List Nd
  | [] => []
  | t :: l => (t.f n).1 ++ (t.f n).2 :: rowsOf (n + t.size) l
def rootsOf (n : Nat) : List It → List Int
  | [] => []
  | t :: l => ((n + t.inner : Nat) : Int) :: rootsOf (n + t.size) l
def sizeL : List It → Nat
  | [] => 0
  | t :: l => t.size + sizeL l
theorem size_app : ∀ a b : List It, sizeL (a ++ b) = sizeL a + sizeL b
  | [], b => by simp [sizeL]
  | t :: a, b => by simp only [List.cons_append, sizeL]; rw [size_app a b]; omega
theorem rows_app : ∀ (a b : List It) (n : Nat), rowsOf n (a ++ b) = rowsOf n a ++ rowsOf (n + sizeL a) b
  | [], b, n => by simp [rowsOf, sizeL]
  | t :: a, b, n => by
    simp only [List.cons_append, rowsOf, sizeL]
    rw [rows_app a b, Nat.add_assoc, List.append_assoc]
    rfl
theorem roots_app : ∀ (a b : List It) (n : Nat), rootsOf n (a ++ b) = rootsOf n a ++ rootsOf (n + sizeL a) b
  | [], b, n => by simp [rootsOf, sizeL]
  | t :: a, b, n => by
    simp only [List.cons_append, rootsOf, sizeL]
    rw [roots_app a b, Nat.add_assoc]
theorem rows_len : ∀ (l : List It) (n : Nat), (∀ t ∈ l, t.Ok) → (rowsOf n l).length = sizeL l
  | [], _, _ => rfl
  | t :: l, n, h => by
    have h1 := (h t (List.mem_cons_self ..)).len n
    simp only [rowsOf, sizeL, List.length_append, List.length_cons]
    rw [h1, rows_len l _ (fun u hu => h u (List.mem_cons_of_mem _ hu))]
    unfold It.size; omega
theorem roots_len : ∀ (l : List It) (n : Nat), (rootsOf n l).length = l.length
  | [], _ => rfl
  | t :: l, n => by simp only [rootsOf, List.length_cons, roots_len l]
/-- texts behind the first -/
def moreT : List It → List UInt8
  | [] => []
  | t :: l => 32 :: (t.txt ++ moreT l)
def joinT : List It → List UInt8
  | [] => []
  | t :: l => t.txt ++ moreT l
/-- is it the name of a quote? -/
def It.isQ (t : It) : Bool := decide ((t.f 0).2.kind = 3) && ((t.f 0).2.s == quoteL)
def textOf (l : List It) : List UInt8 := match l with
  | [a, b] => if a.isQ then 39 :: b.txt else 40 :: (joinT l ++ [41])
  | l => 40 :: (joinT l ++ [41])
def deepL : List It → Nat
  | [] => 0
  | t :: l => max t.d (deepL l)
theorem deep_mem : ∀ (l : List It) (t : It), t ∈ l → t.d ≤ deepL l
  | t0 :: l, t, h => by
    simp only [deepL]
    rcases List.mem_cons.1 h with rfl | h
    · omega
    · have := deep_mem l t h; omega
theorem deep_app (a b : List It) : deepL (a ++ b) = max (deepL a) (deepL b) := by
  induction a with
  | nil => simp [deepL]
  | cons t a ih => simp only [List.cons_append, deepL, ih]; omega
def mkList (l : List It) : It := ⟨fun n => (rowsOf n l, ⟨4, 0, 0, [], rootsOf n l⟩), textOf l, deepL l + 1⟩
theorem Puts.mono {d d' : Nat} {X : List Tok} {f : Nat → List Nd × Nd} (h : Puts d X f) (hd : d ≤ d') : Puts d' X f := fun row tops os ho => h row tops os (by omega)
theorem noP_noP (x : Nd) : noP (noP x) = noP x := rfl
theorem delim_ends {e : UInt8} (h : delim e) (r : List UInt8) : WEnds (e :: r) := .inr ⟨e, r, rfl, by rcases h with rfl | rfl | rfl <;> rfl⟩
/-- items that are put one behind the other in a list that is open -/
def PutsIn (d : Nat) (X : List Tok) (l : List It) : Prop := ∃ g : Nat → List Nd, (∀ n, (g n).map noP = (rowsOf n l).map noP) ∧ ∀ row tops o os, o.quote = false → os.length + 1 + d ≤ 50 → toksS (row, tops, o :: os) X = .ok (row ++ g row.length, tops, ⟨o.at_, false, o.l ++ rootsOf row.length l⟩ :: os)
theorem PutsIn.mono {d d' : Nat} {X : List Tok} {l : List It} (h : PutsIn d X l) (hd : d ≤ d') : PutsIn d' X l := by
  obtain ⟨g, h1, h2⟩ := h
  exact ⟨g, h1, fun row tops o os ho hl => h2 row tops o os ho (by omega)⟩
theorem puts_in {t : It} {X : List Tok} {f' : Nat → List Nd × Nd} (ht : t.Ok) (h1 : Puts t.d X f') (h2 : Like t.f f') {l : List It} {Y : List Tok} {d : Nat} (hd : t.d ≤ d) (hY : PutsIn d Y l) : PutsIn d (X ++ Y) (t :: l) := by
  obtain ⟨g, g1, g2⟩ := hY
  refine ⟨fun n => (f' n).1 ++ (f' n).2 :: g (n + t.size), fun n => ?_, fun row tops o os ho hlen => ?_⟩
  · obtain ⟨b1, b2⟩ := h2 n
    simp only [rowsOf, List.map_append, List.map_cons, g1, b1, b2]
  have a1 := h2.len row.length
  have a2 := ht.len row.length
  rw [toks_app, h1 row tops (o :: os) (by rw [List.length_cons]; omega), putS, if_neg (by simp [ho])]
  simp only
  have hl : (row ++ (f' row.length).1 ++ [(f' row.length).2]).length = row.length + t.size := by
    simp only [List.length_append, List.length_singleton]; unfold It.size; omega
  have hl2 : (row ++ (f' row.length).1).length = row.length + t.inner := by rw [List.length_append]; omega
  have e := g2 (row ++ (f' row.length).1 ++ [(f' row.length).2]) tops ⟨o.at_, o.quote, o.l ++ [((row ++ (f' row.length).1).length : Int)]⟩ os ho hlen
  rw [hl, hl2] at e
  rw [hl2, e]
  simp [rootsOf]
theorem puts_in_nil (d : Nat) : PutsIn d [] [] := by
  refine ⟨fun _ => [], fun _ => rfl, ?_⟩
  rintro row tops ⟨a, q, l⟩ os ho _
  simp only at ho
  subst ho
  simp [toksS, rootsOf]
theorem reads_more : ∀ (l : List It) (i : Nat), (∀ t ∈ l, t.Ok) → ∃ X, (∀ e r, delim e → lexL i (moreT l ++ e :: r) = comb X (lexL (i + (moreT l).length) (e :: r))) ∧ PutsIn (deepL l) X l
  | [], i, _ => ⟨[], fun e r _ => by
      show lexL i (e :: r) = comb [] (lexL i (e :: r))
      cases lexL i (e :: r) <;> rfl, puts_in_nil _⟩
  | t :: l, i, h => by
    have ht := h t (List.mem_cons_self ..)
    obtain ⟨X, f', x1, x2, x3⟩ := ht.reads (i + 1)
    obtain ⟨Y, y1, y2⟩ := reads_more l (i + 1 + t.txt.length) (fun u hu => h u (List.mem_cons_of_mem _ hu))
    refine ⟨X ++ Y, fun e r he => ?_, puts_in ht x2 x3 (by simp only [deepL]; omega) (y2.mono (by simp only [deepL]; omega))⟩
    have e1 : moreT (t :: l) ++ e :: r = 32 :: (t.txt ++ (moreT l ++ e :: r)) := by simp [moreT]
    have e2 : (moreT (t :: l)).length = 1 + t.txt.length + (moreT l).length := by simp only [moreT, List.length_cons, List.length_append]; omega
    rw [e1, lex_blank, e2]
    cases l with
    | nil =>
      have := y1 e r he
      simp only [moreT, List.nil_append, List.length_nil, Nat.add_zero] at this ⊢
      rw [x1 e r he, this, comb_comb, ← Nat.add_assoc]
    | cons u l =>
      have := y1 e r he
      have e3 : moreT (u :: l) ++ e :: r = 32 :: (u.txt ++ (moreT l ++ e :: r)) := by simp [moreT]
      rw [e3] at this ⊢
      rw [x1 32 _ (.inl rfl), this, comb_comb, show i + 1 + t.txt.length + (moreT (u :: l)).length = i + (1 + t.txt.length + (moreT (u :: l)).length) from by omega]
theorem reads_join (l : List It) (i : Nat) (h : ∀ t ∈ l, t.Ok) : ∃ X, (∀ r, lexL i (joinT l ++ 41 :: r) = comb X (lexL (i + (joinT l).length) (41 :: r))) ∧ PutsIn (deepL l) X l := by
  cases l with
  | nil => exact ⟨[], fun r => by
      show lexL i (41 :: r) = comb [] (lexL i (41 :: r))
      cases lexL i (41 :: r) <;> rfl, puts_in_nil _⟩
  | cons t l =>
    have ht := h t (List.mem_cons_self ..)
    obtain ⟨X, f', x1, x2, x3⟩ := ht.reads i
    obtain ⟨Y, y1, y2⟩ := reads_more l (i + t.txt.length) (fun u hu => h u (List.mem_cons_of_mem _ hu))
    refine ⟨X ++ Y, fun r => ?_, puts_in ht x2 x3 (by simp only [deepL]; omega) (y2.mono (by simp only [deepL]; omega))⟩
    have e2 : (joinT (t :: l)).length = t.txt.length + (moreT l).length := by simp only [joinT, List.length_append]
    have e1 : joinT (t :: l) ++ 41 :: r = t.txt ++ (moreT l ++ 41 :: r) := by simp [joinT]
    have := y1 41 r (.inr (.inl rfl))
    rw [e1, e2]
    cases l with
    | nil =>
      simp only [moreT, List.nil_append, List.length_nil, Nat.add_zero] at this ⊢
      rw [x1 41 r (.inr (.inl rfl))]
      conv => lhs; rw [this]
      rw [comb_comb]
    | cons u l =>
      have e3 : moreT (u :: l) ++ 41 :: r = 32 :: (u.txt ++ (moreT l ++ 41 :: r)) := by simp [moreT]
      rw [e3] at this ⊢
      rw [x1 32 _ (.inl rfl), this, comb_comb, Nat.add_assoc]
/-- a list that is open is closed -/
theorem puts_brackets {l : List It} {X : List Tok} {d : Nat} (h : PutsIn d X l) (p p2 : Int) : ∃ f', Puts (d + 1) (⟨1, p, 0, []⟩ :: (X ++ [⟨2, p2, 0, []⟩])) f' ∧ ∀ n, (f' n).1.map noP = (rowsOf n l).map noP ∧ noP (f' n).2 = ⟨4, 0, 0, [], rootsOf n l⟩ := by
  obtain ⟨g, g1, g2⟩ := h
  refine ⟨fun n => (g n, ⟨4, p, 0, [], rootsOf n l⟩), fun row tops os ho => ?_, fun n => ⟨g1 n, rfl⟩⟩
  rw [toks_one _ _ _ _ (tok_open row tops os p (by omega)), toks_app, g2 row tops ⟨p, false, []⟩ os rfl (by omega)]
  simp only
  rw [toks_one _ [] _ _ (show tokS _ ⟨2, p2, 0, []⟩ = .ok (putS _ tops os ⟨4, p, 0, [], _⟩) from rfl)]
  simp [toksS]
theorem root_in : ∀ (l : List It) (n k : Nat) (t : It), l[k]? = some t → (rootsOf n l)[k]? = some ((n + sizeL (l.take k) + t.inner : Nat) : Int)
  | [], _, _, _, h => by simp at h
  | u :: l, n, 0, t, h => by
    have : u = t := by simpa using h
    subst this
    simp [rootsOf, sizeL]
  | u :: l, n, k + 1, t, h => by
    have := root_in l (n + u.size) k t (by simpa using h)
    simp only [rootsOf, List.getElem?_cons_succ, List.take_succ_cons, sizeL]
    rw [this, Nat.add_assoc n]
/-- rows within a row -/
def In (R : List Nd) (n : Nat) (l : List Nd) : Prop := ∀ (j : Nat) x, l[j]? = some x → ∃ y, R[n + j]? = some y ∧ noP y = x
theorem In.left {R : List Nd} {n : Nat} {a b : List Nd} (h : In R n (a ++ b)) : In R n a := fun j x hj => h j x (by rw [List.getElem?_append_left (List.getElem?_eq_some_iff.1 hj).1]; exact hj)
theorem In.right {R : List Nd} {n : Nat} {a b : List Nd} (h : In R n (a ++ b)) : In R (n + a.length) b := fun j x hj => by
  rw [Nat.add_assoc]
  exact h (a.length + j) x (by rw [List.getElem?_append_right (by omega), Nat.add_sub_cancel_left]; exact hj)
theorem In.of {R : List Nd} {l : List Nd} {n : Nat} (h : (R.map noP).drop n = l) : In R n l := fun j x hj => by
  subst h
  rw [List.getElem?_drop, List.getElem?_map] at hj
  cases hy : R[n + j]? with
  | none => rw [hy] at hj; cases hj
  | some y => rw [hy] at hj; exact ⟨y, rfl, by injection hj⟩
/-- items' texts, wherever they stand -/
theorem in_items {R : List Nd} {m : Nat} : ∀ (l : List It) (n : Nat), (∀ t ∈ l, t.Ok) → In R n (rowsOf n l) → n + sizeL l ≤ m → moreX (datX R m) (rootsOf n l) = moreT l ∧ itemsX (datX R m) (rootsOf n l) = joinT l
  | [], _, _, _, _ => ⟨rfl, rfl⟩
  | t :: l, n, h, hin, hm => by
    have ht := h t (List.mem_cons_self ..)
    have e : rowsOf n (t :: l) = ((t.f n).1 ++ [(t.f n).2]) ++ rowsOf (n + t.size) l := by simp [rowsOf]
    rw [e] at hin
    have h1 := ht.len n
    simp only [sizeL] at hm
    have hs := ht.shows R n hin.left m (by unfold It.size at hm; omega)
    have hr := hin.right
    have hl : ((t.f n).1 ++ [(t.f n).2]).length = t.size := by simp; unfold It.size; omega
    rw [hl] at hr
    obtain ⟨i1, i2⟩ := in_items (m := m) l (n + t.size) (fun u hu => h u (List.mem_cons_of_mem _ hu)) hr (by omega)
    simp only [rootsOf, moreX, itemsX, moreT, joinT, hs, i1]
    exact ⟨trivial, trivial⟩
theorem list_ok {l : List It} (h : ∀ t ∈ l, t.Ok) : (mkList l).Ok := by
  refine ⟨fun n => ?_, fun i => ?_, fun R n hR fuel hf => ?_, fun h3 => by simp [mkList] at h3, fun n => rfl⟩
  · show (rowsOf n l).length = (rowsOf 0 l).length
    rw [rows_len l n h, rows_len l 0 h]
  · by_cases hq : ∃ a b, l = [a, b] ∧ a.isQ = true
    · obtain ⟨a, b, rfl, ha⟩ := hq
      have hb := h b (by simp)
      have hao := h a (by simp)
      obtain ⟨X, f', x1, x2, x3⟩ := hb.reads (i + 1)
      have htx : (mkList [a, b]).txt = 39 :: b.txt := by simp [mkList, textOf, ha]
      unfold It.isQ at ha
      rw [Bool.and_eq_true, decide_eq_true_eq] at ha
      have hlf := hao.leaf ha.1
      have hsq : (a.f 0).2.s = quoteL := by simpa using ha.2
      rw [hsq] at hlf
      refine ⟨⟨3, (i : Int), 0, []⟩ :: X, qf (i : Int) f', fun e r he => ?_, Puts.mono (puts_quote x2 (i : Int)) (by simp only [mkList, deepL]; omega), fun n => ?_⟩
      · rw [htx, List.cons_append, lex_quote, x1 e r he, comb_comb, List.length_cons, show i + 1 + b.txt.length = i + (b.txt.length + 1) from by omega]
        rfl
      · obtain ⟨c1, c2⟩ := x3 (n + 1)
        have c3 := x3.len (n + 1)
        have ha0 : a.inner = 0 := by unfold It.inner; rw [hlf 0]; rfl
        have has : a.size = 1 := by unfold It.size; rw [ha0]
        have hbl := hb.len (n + 1)
        simp only [mkList, qf, rowsOf, rootsOf, hlf n, has, List.nil_append, List.map_cons, List.map_append, List.map_nil, c1, c2, ha0, Nat.add_zero, List.cons_append]
        refine ⟨rfl, ?_⟩
        rw [← c3, hbl]
        rfl
    · have htx : (mkList l).txt = 40 :: (joinT l ++ [41]) := by
        show textOf l = _
        unfold textOf
        split
        · rename_i a b
          split
          · rename_i hc
            exact absurd ⟨a, b, rfl, hc⟩ hq
          · rfl
        · rfl
      obtain ⟨X, x1, x2⟩ := reads_join l (i + 1) h
      obtain ⟨f', p1, p2⟩ := puts_brackets x2 (i : Int) ((i + 1 + (joinT l).length : Nat) : Int)
      refine ⟨_, f', fun e r he => ?_, p1, fun n => ?_⟩
      · rw [htx, List.cons_append, lex_open, List.append_assoc, List.singleton_append, x1 (e :: r), lex_close, comb_comb, comb_comb]
        simp only [List.length_cons, List.length_append, List.length_nil]
        rw [show i + 1 + (joinT l).length + 1 = i + ((joinT l).length + (0 + 1) + 1) from by omega]
        simp
      · obtain ⟨q1, q2⟩ := p2 n
        exact ⟨q1.symm, q2.symm⟩
  · have hin : In R n (rowsOf n l ++ [⟨4, 0, 0, [], rootsOf n l⟩]) := hR
    have hi : (mkList l).inner = sizeL l := rows_len l 0 h
    rw [hi] at hf ⊢
    obtain ⟨m, rfl⟩ : ∃ m, fuel = m + 1 := ⟨fuel - 1, by omega⟩
    have hr := hin.right
    rw [rows_len l n h] at hr
    obtain ⟨y, hy, hny⟩ := hr 0 _ rfl
    rw [Nat.add_zero] at hy
    have hnd : nd R ((n + sizeL l : Nat) : Int) = y := by
      unfold nd
      rw [Int.toNat_natCast, List.getD_eq_getElem?_getD, hy]; rfl
    have hk : y.kind = 4 := by have := congrArg Nd.kind hny; exact this
    have hl : y.l = rootsOf n l := by have := congrArg Nd.l hny; exact this
    obtain ⟨i1, i2⟩ := in_items (m := m) l n h hin.left (by omega)
    show datX R (m + 1) _ = textOf l
    simp only [datX]
    unfold datS
    rw [hnd, hk, if_neg (by decide), if_neg (by decide), if_neg (by decide)]
    by_cases hq : ∃ a b, l = [a, b] ∧ a.isQ = true
    · obtain ⟨a, b, rfl, ha⟩ := hq
      have htx : textOf [a, b] = 39 :: b.txt := by simp [textOf, ha]
      rw [htx]
      have hb := h b (by simp)
      have hao := h a (by simp)
      unfold It.isQ at ha
      rw [Bool.and_eq_true, decide_eq_true_eq] at ha
      have hlf := hao.leaf ha.1
      have hsq : (a.f 0).2.s = quoteL := by simpa using ha.2
      rw [hsq] at hlf
      have ha0 : a.inner = 0 := by unfold It.inner; rw [hlf 0]; rfl
      have has : a.size = 1 := by unfold It.size; rw [ha0]
      have hlm := hin.left
      obtain ⟨z, hz, hnz⟩ := hlm 0 ⟨3, 0, 0, quoteL, []⟩ (by simp [rowsOf, hlf n])
      rw [Nat.add_zero] at hz
      have hndz : nd R ((n : Nat) : Int) = z := by
        unfold nd
        rw [Int.toNat_natCast, List.getD_eq_getElem?_getD, hz]; rfl
      have hel0 : el (rootsOf n [a, b]) 0 = ((n : Nat) : Int) := by simp [el, rootsOf, ha0]
      have hel1 : el (rootsOf n [a, b]) 1 = ((n + 1 + b.inner : Nat) : Int) := by simp [el, rootsOf, has]
      have hqt : isQuoted R ((n + sizeL [a, b] : Nat) : Int) := by
        unfold isQuoted
        rw [hnd, hl, hel0, hndz]
        have k1 : z.kind = 3 := congrArg Nd.kind hnz
        have k2 : z.s = quoteL := congrArg Nd.s hnz
        exact ⟨by rw [roots_len]; rfl, k1, k2⟩
      rw [if_pos hqt, hl, hel1]
      have hb2 : In R (n + 1) ((b.f (n + 1)).1 ++ [(b.f (n + 1)).2]) := by
        have e : rowsOf n [a, b] = [⟨3, 0, 0, quoteL, []⟩] ++ ((b.f (n + 1)).1 ++ [(b.f (n + 1)).2]) := by simp [rowsOf, hlf n, has]
        rw [e] at hlm
        exact hlm.right
      rw [hb.shows R (n + 1) hb2 m (by simp only [sizeL] at hf; unfold It.size at hf; omega)]
    · have htx : textOf l = 40 :: (joinT l ++ [41]) := by
        unfold textOf
        split
        · rename_i a b
          split
          · rename_i hc
            exact absurd ⟨a, b, rfl, hc⟩ hq
          · rfl
        · rfl
      rw [htx]
      have hqt : ¬ isQuoted R ((n + sizeL l : Nat) : Int) := by
        unfold isQuoted
        rw [hnd, hl]
        rintro ⟨q1, q2, q3⟩
        rw [roots_len] at q1
        obtain ⟨a, b, rfl⟩ : ∃ a b, l = [a, b] := by
          match l, q1 with
          | [a, b], _ => exact ⟨a, b, rfl⟩
        have hel0 : el (rootsOf n [a, b]) 0 = ((n + a.inner : Nat) : Int) := by simp [el, rootsOf]
        rw [hel0] at q2 q3
        have hao := h a (by simp)
        have hal := hao.len n
        have hlm := hin.left
        have e : rowsOf n [a, b] = (a.f n).1 ++ ((a.f n).2 :: rowsOf (n + a.size) [b]) := by simp [rowsOf]
        rw [e] at hlm
        have hlr := hlm.right
        rw [hal] at hlr
        obtain ⟨z, hz, hnz⟩ := hlr 0 (a.f n).2 rfl
        rw [Nat.add_zero] at hz
        have hndz : nd R ((n + a.inner : Nat) : Int) = z := by
          unfold nd
          rw [Int.toNat_natCast, List.getD_eq_getElem?_getD, hz]; rfl
        rw [hndz] at q2 q3
        have k1 : z.kind = (a.f n).2.kind := (congrArg Nd.kind hnz : (noP z).kind = _)
        have k2 : z.s = (a.f n).2.s := (congrArg Nd.s hnz : (noP z).s = _)
        have h3 : (a.f 0).2.kind = 3 := by rw [← hao.kind n, ← k1]; exact q2
        have hlf := hao.leaf h3 n
        have hs : (a.f 0).2.s = quoteL := by
          have : (a.f n).2.s = (a.f 0).2.s := by rw [hlf]
          rw [← this, ← k2]; exact q3
        exact hq ⟨a, b, rfl, by unfold It.isQ; simp [h3, hs]⟩
      rw [if_neg hqt, hl, i2]
def leafIt (x : Nd) (txt : List UInt8) : It := ⟨fun _ => ([], x), txt, 0⟩
theorem again_lex {t : Tok} (h : Again t) (i : Nat) {e : UInt8} (he : delim e) (r : List UInt8) : lexL i (textL t ++ e :: r) = comb [⟨t.kind, (i : Int), t.n, t.s⟩] (lexL (i + (textL t).length) (e :: r)) := by
  obtain ⟨c, w, h1, h2, h3, h4⟩ := h
  rw [h1, List.cons_append, lex_word (w := w) (r := e :: r) (t := (t.kind, t.n, t.s)) i h2 h3 (by rw [firstP_app c w _ (delim_ends he r), h4]; rfl)]
  rfl
theorem leaf_ok {x : Nd} {tk : Tok} (hA : Again tk) (h0 : x.pos = 0) (hl : x.l = []) (hn3 : x.kind = 3 → x.n = 0) (hput : ∀ (p : Int) row tops os, tokS (row, tops, os) ⟨tk.kind, p, tk.n, tk.s⟩ = .ok (putS row tops os ⟨x.kind, p, x.n, x.s, []⟩)) (htx : ∀ (fm : Int → List UInt8) (R : List Nd) (i : Int), noP (nd R i) = x → datS fm R i = textL tk) : (leafIt x (textL tk)).Ok := by
  refine ⟨fun n => rfl, fun i => ⟨[⟨tk.kind, (i : Int), tk.n, tk.s⟩], fun _ => ([], ⟨x.kind, (i : Int), x.n, x.s, []⟩), fun e r he => again_lex hA i he r, fun row tops os _ => ?_, fun n => ⟨rfl, ?_⟩⟩, fun R n hR fuel hf => ?_, fun h3 n => ?_, fun n => rfl⟩
  · show toksS _ _ = .ok (putS (row ++ []) tops os _)
    rw [List.append_nil, toks_one _ [] _ _ (hput (i : Int) row tops os)]
    rfl
  · obtain ⟨a, b, c, d, e⟩ := x
    simp only at h0 hl
    subst hl
    rfl
  · obtain ⟨m, rfl⟩ : ∃ m, fuel = m + 1 := ⟨fuel - 1, by omega⟩
    obtain ⟨y, hy, hny⟩ := hR 0 x rfl
    rw [Nat.add_zero] at hy
    simp only [datX]
    refine htx _ R _ ?_
    show noP (nd R ((n + 0 : Nat) : Int)) = x
    unfold nd
    rw [Nat.add_zero, Int.toNat_natCast, List.getD_eq_getElem?_getD, hy]
    exact hny
  · obtain ⟨a, b, c, d, e⟩ := x
    have h3' : a = 3 := h3
    have h4 := hn3 h3'
    simp only at h0 hl h4
    subst h0 hl h4 h3'
    rfl
theorem num_ok {tk : Tok} (hA : Again tk) (hk : tk.kind = 4) (hb : -1099511627776 < tk.n ∧ tk.n < 1099511627776) : (leafIt ⟨1, 0, tk.n, [], []⟩ (textL tk)).Ok :=
  leaf_ok hA rfl rfl (fun h => by simp at h) (fun p row tops os => by
    unfold tokS
    simp only
    rw [if_pos hk]) (fun fm R i h => by
    have k1 : (nd R i).kind = 1 := congrArg Nd.kind h
    have k2 : (nd R i).n = tk.n := congrArg Nd.n h
    unfold datS
    rw [if_pos k1, k2]
    unfold textL
    rw [hk, if_neg (by decide), if_neg (by decide), if_neg (by decide), if_pos rfl, digL_itoa _ hb.1 hb.2])
theorem mark_ok {tk : Tok} (hA : Again tk) (hk : tk.kind = 5) : (leafIt ⟨2, 0, tk.n, [], []⟩ (textL tk)).Ok :=
  leaf_ok hA rfl rfl (fun h => by simp at h) (fun p row tops os => by
    unfold tokS
    simp only
    rw [if_neg (by omega), if_pos hk]) (fun fm R i h => by
    have k1 : (nd R i).kind = 2 := congrArg Nd.kind h
    have k2 : (nd R i).n = tk.n := congrArg Nd.n h
    unfold datS
    rw [if_neg (by omega), if_pos k1, k2]
    have ht : textL tk = if tk.n = 1 then [35, 116] else [35, 102] := by
      unfold textL
      rw [hk, if_neg (by decide), if_neg (by decide), if_neg (by decide), if_neg (by decide), if_pos rfl]
    rw [ht]
    unfold markB
    by_cases h1 : tk.n = 1 <;> simp [h1])
theorem name_ok {tk : Tok} (hA : Again tk) (hk : tk.kind = 6) : (leafIt ⟨3, 0, 0, tk.s, []⟩ (textL tk)).Ok :=
  leaf_ok hA rfl rfl (fun _ => rfl) (fun p row tops os => by
    unfold tokS
    simp only
    rw [if_neg (by omega), if_neg (by omega), if_pos hk]) (fun fm R i h => by
    have k1 : (nd R i).kind = 3 := congrArg Nd.kind h
    have k2 : (nd R i).s = tk.s := congrArg Nd.s h
    unfold datS
    rw [if_neg (by omega), if_neg (by omega), if_pos k1, k2]
    unfold textL
    rw [hk, if_neg (by decide), if_neg (by decide), if_neg (by decide), if_neg (by decide), if_neg (by decide)])
theorem quote_again : Again ⟨6, 0, 0, quoteL⟩ := tok_again quoteL (by decide) (by decide) 0 (t := (6, 0, quoteL)) rfl
/-! texts' data as items -/
def flatS (S : List (Bool × List It)) : List It := S.reverse.flatMap (·.2)
theorem flat_cons (s : Bool × List It) (S : List (Bool × List It)) : flatS (s :: S) = flatS S ++ s.2 := by simp [flatS]
def RelO (T : List It) : List Pt → List (Bool × List It) → Prop
  | [], [] => True
  | o :: os, s :: S => o.quote = s.1 ∧ o.l = rootsOf (sizeL (T ++ flatS S)) s.2 ∧ RelO T os S
  | _, _ => False
def Fit : List (Bool × List It) → Prop
  | [] => True
  | s :: S => S.length + 1 ≤ 50 ∧ (∀ t ∈ s.2, t.Ok ∧ S.length + 1 + t.d ≤ 50) ∧ Fit S
theorem fit_ok : ∀ S : List (Bool × List It), Fit S → ∀ t ∈ flatS S, t.Ok
  | [], _, t, ht => by simp [flatS] at ht
  | s :: S, h, t, ht => by
    rw [flat_cons] at ht
    rcases List.mem_append.1 ht with ht | ht
    · exact fit_ok S h.2.2 t ht
    · exact (h.2.1 t ht).1
theorem rel_len : ∀ (T : List It) (os : List Pt) (S : List (Bool × List It)), RelO T os S → os.length = S.length
  | _, [], [], _ => rfl
  | T, o :: os, s :: S, h => by rw [List.length_cons, List.length_cons, rel_len T os S h.2.2]
  | _, [], _ :: _, h => h.elim
  | _, _ :: _, [], h => h.elim
structure Sim (st : List Nd × List Int × List Pt) (T : List It) (S : List (Bool × List It)) : Prop where
  row : st.1.map noP = rowsOf 0 (T ++ flatS S)
  tops : st.2.1 = rootsOf 0 T
  opn : RelO T st.2.2 S
  ok : ∀ t ∈ T, t.Ok ∧ t.d ≤ 50
  fit : Fit S
theorem put_sim : ∀ (os : List Pt) (S : List (Bool × List It)) (row : List Nd) (tops : List Int) (T : List It) (x : Nd) (t : It), t.Ok → S.length + t.d ≤ 50 → row.map noP = rowsOf 0 (T ++ flatS S) ++ (t.f (sizeL (T ++ flatS S))).1 → noP x = (t.f (sizeL (T ++ flatS S))).2 → tops = rootsOf 0 T → RelO T os S → (∀ t ∈ T, t.Ok ∧ t.d ≤ 50) → Fit S → ∃ T' S', Sim (putS row tops os x) T' S'
  | [], [], row, tops, T, x, t, ht, hd, hr, hx, htp, _, hok, _ => by
    have hl := congrArg List.length hr
    simp only [List.length_map, List.length_append, flatS, List.reverse_nil, List.flatMap_nil, List.append_nil] at hl hr hx
    rw [rows_len T 0 (fun u hu => (hok u hu).1), ht.len] at hl
    refine ⟨T ++ [t], [], ?_, ?_, trivial, fun u hu => ?_, trivial⟩
    · show (row ++ [x]).map noP = rowsOf 0 ((T ++ [t]) ++ [])
      rw [List.append_nil, rows_app, Nat.zero_add, List.map_append, hr, List.append_assoc]
      simp [rowsOf, hx]
    · show tops ++ [(row.length : Int)] = _
      rw [roots_app, Nat.zero_add, htp, hl]
      simp [rootsOf]
    · rcases List.mem_append.1 hu with hu | hu
      · exact hok u hu
      · have : u = t := by simpa using hu
        subst this
        exact ⟨ht, by simpa using hd⟩
  | o :: os, s :: S, row, tops, T, x, t, ht, hd, hr, hx, htp, hrel, hok, hfit => by
    obtain ⟨r1, r2, r3⟩ := hrel
    obtain ⟨f1, f2, f3⟩ := hfit
    have hall : ∀ u ∈ T ++ flatS S, u.Ok := fun u hu => by
      rcases List.mem_append.1 hu with hu | hu
      · exact (hok u hu).1
      · exact fit_ok S f3 u hu
    have hl := congrArg List.length hr
    have hn1 : sizeL (T ++ flatS (s :: S)) = sizeL (T ++ flatS S) + sizeL s.2 := by rw [flat_cons, ← List.append_assoc, size_app]
    have hrw : rowsOf 0 (T ++ flatS (s :: S)) = rowsOf 0 (T ++ flatS S) ++ rowsOf (sizeL (T ++ flatS S)) s.2 := by rw [flat_cons, ← List.append_assoc, rows_app, Nat.zero_add]
    rw [hn1, hrw] at hr hl
    rw [hn1] at hx
    simp only [List.length_map, List.length_append] at hl
    rw [rows_len _ 0 hall, rows_len s.2 _ (fun u hu => (f2 u hu).1), ht.len] at hl
    have hst : ∀ u ∈ s.2 ++ [t], u.Ok := fun u hu => by
      rcases List.mem_append.1 hu with hu | hu
      · exact (f2 u hu).1
      · have : u = t := by simpa using hu
        subst this; exact ht
    have hrow2 : (row ++ [x]).map noP = rowsOf 0 (T ++ flatS S) ++ rowsOf (sizeL (T ++ flatS S)) (s.2 ++ [t]) := by
      rw [List.map_append, hr, rows_app s.2 [t], List.append_assoc, List.append_assoc]
      simp [rowsOf, hx]
    have hroot : o.l ++ [(row.length : Int)] = rootsOf (sizeL (T ++ flatS S)) (s.2 ++ [t]) := by
      rw [roots_app, r2, hl]
      simp [rootsOf]
    rw [List.length_cons] at hd
    unfold putS
    by_cases hq : (o.quote && o.l.length == 1) = true
    · rw [if_pos hq]
      refine put_sim os S (row ++ [x]) tops T _ (mkList (s.2 ++ [t])) (list_ok hst) ?_ hrow2 ?_ htp r3 hok f3
      · show S.length + (deepL (s.2 ++ [t]) + 1) ≤ 50
        rw [deep_app]
        have h1 : deepL s.2 + (S.length + 1) ≤ 50 := by
          have key : ∀ l : List It, (∀ u ∈ l, S.length + 1 + u.d ≤ 50) → deepL l + (S.length + 1) ≤ 50 := by
            intro l
            induction l with
            | nil => intro _; simp only [deepL]; omega
            | cons u l ih =>
              intro h
              have h1 := h u (List.mem_cons_self ..)
              have h2 := ih (fun v hv => h v (List.mem_cons_of_mem _ hv))
              simp only [deepL]; omega
          exact key s.2 (fun u hu => (f2 u hu).2)
        simp only [deepL]
        omega
      · show (⟨4, 0, 0, [], o.l ++ [(row.length : Int)]⟩ : Nd) = ⟨4, 0, 0, [], rootsOf _ (s.2 ++ [t])⟩
        rw [hroot]
    · rw [if_neg hq]
      refine ⟨T, (s.1, s.2 ++ [t]) :: S, ?_, htp, ⟨r1, hroot, r3⟩, hok, f1, fun u hu => ?_, f3⟩
      · show (row ++ [x]).map noP = _
        rw [flat_cons, ← List.append_assoc, rows_app (T ++ flatS S), Nat.zero_add]
        exact hrow2
      · rcases List.mem_append.1 hu with hu | hu
        · exact f2 u hu
        · have : u = t := by simpa using hu
          subst this; exact ⟨ht, by omega⟩
  | [], _ :: _, _, _, _, _, _, _, _, _, _, _, h, _, _ => h.elim
  | _ :: _, [], _, _, _, _, _, _, _, _, _, _, h, _, _ => h.elim
theorem tok_sim {st st' : List Nd × List Int × List Pt} {T : List It} {S : List (Bool × List It)} {tk : Tok} (h : Sim st T S) (hA : Again tk) (hb : tk.kind = 4 → -1099511627776 < tk.n ∧ tk.n < 1099511627776) (_hk : 1 ≤ tk.kind ∧ tk.kind ≤ 6) (ht : tokS st tk = .ok st') : ∃ T' S', Sim st' T' S' := by
  obtain ⟨row, tops, os⟩ := st
  obtain ⟨h1, h2, h3, h4, h5⟩ := h
  simp only at h1 h2 h3
  have hlen := rel_len T os S h3
  have hS : S.length ≤ 50 := by
    cases S with
    | nil => exact Nat.zero_le _
    | cons s S => exact h5.1
  have leaf : ∀ (x : Nd) (txt : List UInt8), (leafIt (noP x) txt).Ok → ∃ T' S', Sim (putS row tops os x) T' S' := fun x txt ho =>
    put_sim os S row tops T x (leafIt (noP x) txt) ho (by simpa [leafIt] using hS) (by rw [h1]; exact (List.append_nil _).symm) rfl h2 h3 h4 h5
  unfold tokS at ht
  simp only at ht
  split at ht
  · rename_i hk4
    injection ht with ht
    rw [← ht]
    exact leaf _ _ (num_ok hA hk4 (hb hk4))
  split at ht
  · rename_i hk5
    injection ht with ht
    rw [← ht]
    exact leaf _ _ (mark_ok hA hk5)
  split at ht
  · rename_i hk6
    injection ht with ht
    rw [← ht]
    exact leaf _ _ (name_ok hA hk6)
  split at ht
  · cases os with
    | nil => cases ht
    | cons o os =>
      cases S with
      | nil => exact h3.elim
      | cons s S =>
        simp only at ht
        split at ht
        · cases ht
        · injection ht with ht
          rw [← ht]
          obtain ⟨r1, r2, r3⟩ := h3
          obtain ⟨f1, f2, f3⟩ := h5
          have hrw : rowsOf 0 (T ++ flatS (s :: S)) = rowsOf 0 (T ++ flatS S) ++ rowsOf (sizeL (T ++ flatS S)) s.2 := by rw [flat_cons, ← List.append_assoc, rows_app, Nat.zero_add]
          refine put_sim os S row tops T _ (mkList s.2) (list_ok (fun u hu => (f2 u hu).1)) ?_ (by rw [h1, hrw]; rfl) ?_ h2 r3 h4 f3
          · show S.length + (deepL s.2 + 1) ≤ 50
            have key : ∀ l : List It, (∀ u ∈ l, S.length + 1 + u.d ≤ 50) → deepL l + (S.length + 1) ≤ 50 := by
              intro l
              induction l with
              | nil => intro _; simp only [deepL]; omega
              | cons u l ih =>
                intro h
                have h1 := h u (List.mem_cons_self ..)
                have h2 := ih (fun v hv => h v (List.mem_cons_of_mem _ hv))
                simp only [deepL]; omega
            have := key s.2 (fun u hu => (f2 u hu).2)
            omega
          · show (⟨4, 0, 0, [], o.l⟩ : Nd) = ⟨4, 0, 0, [], rootsOf _ s.2⟩
            rw [r2]
  split at ht
  · cases ht
  rename_i hd
  have hS' : S.length < 50 := by omega
  split at ht
  · injection ht with ht
    rw [← ht]
    have hq : (leafIt ⟨3, 0, 0, quoteL, []⟩ (textL ⟨6, 0, 0, quoteL⟩)).Ok := name_ok quote_again rfl
    have hf : flatS ((true, ([] : List It)) :: S) = flatS S := by rw [flat_cons]; exact List.append_nil _
    exact put_sim (⟨tk.pos, true, []⟩ :: os) ((true, []) :: S) row tops T ⟨3, tk.pos, 0, quoteL, []⟩ _ hq (by rw [List.length_cons]; simp only [leafIt]; omega) (by rw [hf, h1]; exact (List.append_nil _).symm) (by rw [hf]; rfl) h2 ⟨rfl, rfl, h3⟩ h4 ⟨hS', fun u hu => (by simp at hu), h5⟩
  · injection ht with ht
    rw [← ht]
    have hf : flatS ((false, ([] : List It)) :: S) = flatS S := by rw [flat_cons]; exact List.append_nil _
    exact ⟨T, (false, []) :: S, by rw [hf]; exact h1, h2, ⟨rfl, rfl, h3⟩, h4, hS', fun u hu => (by simp at hu), h5⟩
theorem toks_sim : ∀ (ts : List Tok) (st st' : List Nd × List Int × List Pt) (T : List It) (S : List (Bool × List It)), Sim st T S → (∀ t ∈ ts, Again t ∧ (t.kind = 4 → -1099511627776 < t.n ∧ t.n < 1099511627776) ∧ 1 ≤ t.kind ∧ t.kind ≤ 6) → toksS st ts = .ok st' → ∃ T' S', Sim st' T' S'
  | [], st, st', T, S, h, _, ht => by
    injection ht with ht
    exact ⟨T, S, ht ▸ h⟩
  | t :: ts, st, st', T, S, h, hA, ht => by
    unfold toksS at ht
    obtain ⟨a1, a2, a3⟩ := hA t (List.mem_cons_self ..)
    cases he : tokS st t with
    | error e => rw [he] at ht; cases ht
    | ok st1 =>
      rw [he] at ht
      obtain ⟨T', S', h'⟩ := tok_sim h a1 a2 a3 he
      exact toks_sim ts st1 st' T' S' h' (fun u hu => hA u (List.mem_cons_of_mem _ hu)) ht
theorem stand_all (full : List UInt8) : ∀ (ts : List Tok) (last : Int), Stand full last ts → ∀ t ∈ ts, Again t ∧ (t.kind = 4 → -1099511627776 < t.n ∧ t.n < 1099511627776) ∧ 1 ≤ t.kind ∧ t.kind ≤ 6
  | [], _, _, t, ht => by cases ht
  | t0 :: ts, last, h, t, ht => by
    obtain ⟨_, _, h3, h4, _, h5⟩ := h
    rcases List.mem_cons.1 ht with rfl | ht
    · exact ⟨h3, h4⟩
    · exact stand_all full ts _ h5 t ht
/-- what is read are items -/
theorem read_items {l : List UInt8} {R : List Nd} {tops : List Int} (h : readF l = .ok (R, tops)) : ∃ T : List It, (∀ t ∈ T, t.Ok ∧ t.d ≤ 50) ∧ R.map noP = rowsOf 0 T ∧ tops = rootsOf 0 T := by
  unfold readF at h
  cases hx : lexF l with
  | error e => rw [hx] at h; cases h
  | ok ts =>
    rw [hx] at h
    simp only at h
    unfold readT at h
    cases hy : toksS ([], [], []) ts with
    | error e => rw [hy] at h; cases h
    | ok st =>
      rw [hy] at h
      simp only at h
      unfold lexF at hx
      split at hx
      · cases hx
      have hs := stand_ok l l.length 0 ts (-1) (by omega) (by omega) (by omega) (by rw [List.drop_zero]; exact hx)
      obtain ⟨T, S, g1, g2, g3, g4, g5⟩ := toks_sim ts ([], [], []) st [] [] ⟨rfl, rfl, trivial, fun t ht => (by cases ht), trivial⟩ (stand_all l ts _ hs) hy
      obtain ⟨row, tp, os⟩ := st
      unfold endS at h
      cases os with
      | cons o os => cases h
      | nil =>
        injection h with h
        injection h with e1 e2
        subst e1; subst e2
        cases S with
        | cons s S => exact g3.elim
        | nil =>
          refine ⟨T, g4, ?_, g2⟩
          have : flatS [] = [] := rfl
          rw [this, List.append_nil] at g1
          exact g1
theorem lex_pass1 (i : Nat) {e : UInt8} (he : isBlank e = true) (r : List UInt8) : lexL i (e :: r) = lexL (i + 1) r := by
  have h : pass false (e :: r) = pass false r := by rw [pass_f, if_pos he]
  rw [lexL_pass i (e :: r), lexL_pass (i + 1) r, h]
  have := pass_le false r
  rw [List.length_cons, show i + (r.length + 1 - (pass false r).length) = i + 1 + (r.length - (pass false r).length) from by omega]
/-- items' texts, each with something behind it -/
def shownT (e : UInt8) (T : List It) : List UInt8 := T.flatMap fun t => t.txt ++ [e]
theorem shown_toks (e : UInt8) (he : e = 32 ∨ e = 10) : ∀ (T : List It), (∀ t ∈ T, t.Ok ∧ t.d ≤ 50) → ∀ (i : Nat) (row : List Nd) (tops : List Int), ∃ ts R', lexL i (shownT e T) = .ok ts ∧ toksS (row, tops, []) ts = .ok (row ++ R', tops ++ rootsOf row.length T, []) ∧ R'.map noP = (rowsOf row.length T).map noP
  | [], _, i, row, tops => ⟨[], [], rfl, by simp [toksS, rootsOf], rfl⟩
  | t :: T, h, i, row, tops => by
    obtain ⟨ht, hd⟩ := h t (List.mem_cons_self ..)
    obtain ⟨X, f', x1, x2, x3⟩ := ht.reads i
    have hb : isBlank e = true := by rcases he with rfl | rfl <;> rfl
    have hde : delim e := by rcases he with rfl | rfl; exact .inl rfl; exact .inr (.inr rfl)
    have a1 := x3.len row.length
    have a2 := ht.len row.length
    obtain ⟨b1, b2⟩ := x3 row.length
    have hl : (row ++ (f' row.length).1 ++ [(f' row.length).2]).length = row.length + t.size := by
      simp only [List.length_append, List.length_singleton]; unfold It.size; omega
    obtain ⟨ts, R', g1, g2, g3⟩ := shown_toks e he T (fun u hu => h u (List.mem_cons_of_mem _ hu)) (i + t.txt.length + 1) (row ++ (f' row.length).1 ++ [(f' row.length).2]) (tops ++ [((row.length + t.inner : Nat) : Int)])
    rw [hl] at g2 g3
    refine ⟨X ++ ts, (f' row.length).1 ++ (f' row.length).2 :: R', ?_, ?_, ?_⟩
    · have e1 : shownT e (t :: T) = t.txt ++ e :: shownT e T := by simp [shownT]
      rw [e1, x1 e _ hde, lex_pass1 _ hb, g1]
      rfl
    · rw [toks_app, puts_top x2 hd row tops]
      simp only
      rw [← a1, a2, g2]
      simp [rootsOf]
    · simp only [rowsOf, List.map_append, List.map_cons, g3, b1, b2]
/-- what is shown is read as it was -/
theorem shown_read (e : UInt8) (he : e = 32 ∨ e = 10) {T : List It} (h : ∀ t ∈ T, t.Ok ∧ t.d ≤ 50) (hl : (shownT e T).length ≤ 4000) : ∃ R, readF (shownT e T) = .ok (R, rootsOf 0 T) ∧ R.map noP = (rowsOf 0 T).map noP := by
  obtain ⟨ts, R', g1, g2, g3⟩ := shown_toks e he T h 0 [] []
  exact ⟨R', read_of hl g1 (by simpa using g2), g3⟩
/-- each text is the item's -/
theorem roots_shown {R : List Nd} {T : List It} (h : ∀ t ∈ T, t.Ok ∧ t.d ≤ 50) (hR : R.map noP = rowsOf 0 T) (m : Nat) (hm : sizeL T ≤ m) : (rootsOf 0 T).map (datX R m) = T.map (·.txt) := by
  have key : ∀ (l : List It) (n : Nat), (∀ t ∈ l, t.Ok) → In R n (rowsOf n l) → n + sizeL l ≤ m → (rootsOf n l).map (datX R m) = l.map (·.txt) := by
    intro l
    induction l with
    | nil => intros; rfl
    | cons t l ih =>
      intro n h hin hm
      have ht := h t (List.mem_cons_self ..)
      have e : rowsOf n (t :: l) = ((t.f n).1 ++ [(t.f n).2]) ++ rowsOf (n + t.size) l := by simp [rowsOf]
      rw [e] at hin
      have h1 := ht.len n
      simp only [sizeL] at hm
      have hs := ht.shows R n hin.left m (by unfold It.size at hm; omega)
      have hr := hin.right
      have hl : ((t.f n).1 ++ [(t.f n).2]).length = t.size := by simp; unfold It.size; omega
      rw [hl] at hr
      simp only [rootsOf, List.map_cons, hs]
      rw [ih (n + t.size) (fun u hu => h u (List.mem_cons_of_mem _ hu)) hr (by omega)]
  exact key T 0 (fun t ht => (h t ht).1) (In.of (by rw [hR]; rfl)) (by omega)
end Go.Proofs.YtomhkemdafiphaaGreatDoor.ShowP

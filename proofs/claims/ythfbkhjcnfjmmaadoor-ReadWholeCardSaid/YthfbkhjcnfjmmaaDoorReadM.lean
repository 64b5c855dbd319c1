/- What it is that a block is a reader, and what becomes of it where something is put; each states its conditions. -/
import Derived.Test.YthfbkhjcnfjmmaaDoorOwn
import Derived.Test.YthfbkhjcnfjmmaaDoorReadP
import Derived.Test.YthfbkhjcnfjmmaaDoorWWords
import Derived.Lib.Hide
namespace Go.Proofs.YthfbkhjcnfjmmaaDoor.ReadM
open Go Go.RowKit Go.Proofs.YthfbkhjcnfjmmaaDoor.Heap Go.Proofs.YthfbkhjcnfjmmaaDoor.Own Go.Proofs.YthfbkhjcnfjmmaaDoor.ReadP
open Go.Proofs.YthfbkhjcnfjmmaaDoorW.PrintWords (own_typed)
/-- a datum's cells -/
def nodeC (p : Nd × Value) : List Value := [.int .u8 p.1.kind, .int .i64 p.1.pos, .int .i64 p.1.n, .string ⟨p.1.s.toArray⟩, p.2]
def Ints (w : World) (base : Nat) (v : Value) (l : List Int) : Prop := w.ownsRow base 3 1 v l.length (nums .i64 l)
def Nodes (w : World) (base : Nat) (v : Value) (rs : List (Nd × Value)) : Prop := w.ownsRow base 32 5 v rs.length (rs.flatMap nodeC)
/-- rows that lie apart -/
def Apart (vs : List Value) : Prop := vs.Pairwise fun a b => ∀ k, a.ownBlock = some k → b.ownBlock ≠ some k
theorem own_ne {w : World} {b1 b2 e1 e2 s1 s2 n1 n2 : Nat} {v1 v2 : Value} {x1 x2 : List Value} (h1 : w.ownsRow b1 e1 s1 v1 n1 x1) (h2 : w.ownsRow b2 e2 s2 v2 n2 x2) (hne : e1 ≠ e2) : ∀ k, v1.ownBlock = some k → v2.ownBlock ≠ some k := by
  intro k hk1 hk2
  obtain ⟨c1, g1⟩ := own_typed h1 k hk1
  obtain ⟨c2, g2⟩ := own_typed h2 k hk2
  rw [g1] at g2
  injection g2 with g2
  injection g2 with _ g2
  exact hne g2
theorem own_blk_ne {w : World} {b1 e1 s1 n1 g t : Nat} {v1 : Value} {x1 : List Value} {cs : Array Value} (h1 : w.ownsRow b1 e1 s1 v1 n1 x1) (h2 : w.heap[g]? = some (.cells cs t (0, 0))) (hne : e1 ≠ t) : v1.ownBlock ≠ some g := by
  intro hk
  obtain ⟨c1, g1⟩ := own_typed h1 g hk
  rw [h2] at g1
  injection g1 with g1
  injection g1 with _ g1
  exact hne g1.symm
theorem keep_int {w w' : World} {base : Nat} {v : Value} {l : List Int} {F : List Nat} (h : Ints w base v l) (k : Chg F w w') (hF : ∀ b, v.ownBlock = some b → b ∉ F) : Ints w' base v l := own_keep h k hF
theorem ints_nil (w : World) (base : Nat) : Ints w base (.slice none 0 0) [] := World.ownsRow_nil _ _ _ _
/-- a reader: its data, which stand by themselves, what is open (the last one first; each with its block and its row) -/
structure IsRd (w : World) (base g : Nat) (rs : List (Nd × Value)) (tops : List Int) (v1 : Value) (os : List (Pt × Nat × Value)) : Prop where
  ex : ∃ v0 v2, w.heap[g]? = some (.cells #[v0, v1, v2] 46 (0, 0)) ∧ Nodes w base v0 rs ∧ w.ownsRow base 50 1 v2 os.length (os.reverse.map fun o => .pointer (some ⟨o.2.1, 0, none⟩))
  hg : base ≤ g
  top : Ints w base v1 tops
  ops : ∀ o ∈ os, base ≤ o.2.1 ∧ w.heap[o.2.1]? = some (.cells #[.int .i64 o.1.at_, .bool o.1.quote, o.2.2] 53 (0, 0)) ∧ Ints w base o.2.2 o.1.l
  nod : (os.map (·.2.1)).Nodup
  inn : ∀ p ∈ rs, Ints w base p.2 p.1.l
  apart : Apart (v1 :: (os.map (·.2.2) ++ rs.map (·.2)))
theorem IsRd.chg {w w' : World} {base g : Nat} {rs : List (Nd × Value)} {tops : List Int} {v1 : Value} {os : List (Pt × Nat × Value)} (h : IsRd w base g rs tops v1 os) (k : Chg [] w w') : IsRd w' base g rs tops v1 os := by
  obtain ⟨⟨v0, v2, h1, h2, h3⟩, hg, ht, ho, hn, hi, ha⟩ := h
  exact ⟨⟨v0, v2, k.at h1 (by simp), own_keep h2 k (by simp), own_keep h3 k (by simp)⟩, hg, own_keep ht k (by simp), fun o hh => ⟨(ho o hh).1, k.at (ho o hh).2.1 (by simp), own_keep (ho o hh).2.2 k (by simp)⟩, hn, fun p hp => own_keep (hi p hp) k (by simp), ha⟩
theorem apart_sub {a b : List Value} (h : Apart b) (hs : List.Sublist a b) : Apart a := List.Pairwise.sublist hs h
/-- a datum is put into the row -/
theorem IsRd.put {w w1 : World} {base g : Nat} {rs : List (Nd × Value)} {tops : List Int} {v1 : Value} {os : List (Pt × Nat × Value)} (h : IsRd w base g rs tops v1 os) {v0 v2 : Value} (hb : w.heap[g]? = some (.cells #[v0, v1, v2] 46 (0, 0))) (k : Chg (ob v0) w w1) {u : Value} (x : Nd) (Lx : Value) (hu : w1.ownsRow base 32 5 u (rs.length + 1) (rs.flatMap nodeC ++ nodeC (x, Lx)))
    (hx : Ints w1 base Lx x.l) (hax : ∀ v ∈ v1 :: (os.map (·.2.2) ++ rs.map (·.2)), ∀ k, v.ownBlock = some k → Lx.ownBlock ≠ some k) :
    IsRd (w1.setCell ⟨g, 0, none⟩ u) base g (rs ++ [(x, Lx)]) tops v1 os := by
  obtain ⟨⟨v0', v2', h1, h2, h3⟩, hg, ht, ho, hn, hi, ha⟩ := h
  rw [hb] at h1
  injection h1 with h1; injection h1 with h1
  have e0 : v0' = v0 := by have := congrArg (fun a => a[0]?) h1; simpa using this.symm
  have e2 : v2' = v2 := by have := congrArg (fun a => a[2]?) h1; simpa using this.symm
  subst e0 e2
  have kg : g ∉ ob v0' := fun hm => own_blk_ne h2 hb (by decide) (mem_ob.1 hm)
  have hb1 := k.at hb kg
  have ki : ∀ {v : Value} {l : List Int}, Ints w base v l → Ints (w1.setCell ⟨g, 0, none⟩ u) base v l := fun {v l} hh => by
    have s1 : Ints w1 base v l := own_keep hh k (fun b hb' hm => own_ne hh h2 (by decide) b hb' (mem_ob.1 hm))
    exact own_keep s1 (F := [g]) ((Chg.refl [g] w1).set _ _ (.inl (by simp))) (fun b hb' hm => by
      have : b = g := by simpa using hm
      subst this
      exact own_blk_ne s1 hb1 (by decide) hb')
  have kx : Ints (w1.setCell ⟨g, 0, none⟩ u) base Lx x.l := own_keep hx (F := [g]) ((Chg.refl [g] w1).set _ _ (.inl (by simp))) (fun b hb' hm => by
    have : b = g := by simpa using hm
    subst this
    exact own_blk_ne hx hb1 (by decide) hb')
  refine ⟨⟨u, v2', ?_, ?_, ?_⟩, hg, ki ht, fun o hh => ⟨(ho o hh).1, ?_, ki (ho o hh).2.2⟩, hn, fun p hp => ?_, ?_⟩
  · have := blk_set hb1 0 u
    simpa using this
  · unfold Nodes
    rw [List.length_append, List.flatMap_append, List.flatMap_singleton]
    exact own_keep hu (F := [g]) ((Chg.refl [g] w1).set _ _ (.inl (by simp))) (fun b hb' hm => by
      have : b = g := by simpa using hm
      subst this
      exact own_blk_ne hu hb1 (by decide) hb')
  · have s1 := own_keep h3 k (fun b hb' hm => own_ne h3 h2 (by decide) b hb' (mem_ob.1 hm))
    exact own_keep s1 (F := [g]) ((Chg.refl [g] w1).set _ _ (.inl (by simp))) (fun b hb' hm => by
      have : b = g := by simpa using hm
      subst this
      exact own_blk_ne s1 hb1 (by decide) hb')
  · have s1 := k.at (ho o hh).2.1 (fun hm => own_blk_ne h2 (ho o hh).2.1 (by decide) (mem_ob.1 hm))
    exact blk_far s1 (blk_ne s1 hb1 (by decide)) u
  · rcases List.mem_append.1 hp with hp | hp
    · exact ki (hi p hp)
    · have : p = (x, Lx) := by simpa using hp
      subst this
      exact kx
  · rw [List.map_append, ← List.append_assoc, ← List.cons_append]
    exact List.pairwise_append.2 ⟨ha, by simp, fun a ha' b hb' => by
      have : b = Lx := by simpa using hb'
      subst this
      exact hax a ha'⟩
/-- what is known of the reader's block -/
theorem IsRd.cells {w : World} {base g : Nat} {rs : List (Nd × Value)} {tops : List Int} {v1 : Value} {os : List (Pt × Nat × Value)} (h : IsRd w base g rs tops v1 os) : ∃ v0 A B, w.heap[g]? = some (.cells #[v0, v1, .slice A os.length B] 46 (0, 0)) ∧ Nodes w base v0 rs ∧ w.ownsRow base 50 1 (.slice A os.length B) os.length (os.reverse.map fun o => .pointer (some ⟨o.2.1, 0, none⟩)) := by
  obtain ⟨v0, v2, h1, h2, h3⟩ := h.ex
  obtain ⟨A, B, rfl⟩ := own_slice h3
  exact ⟨v0, A, B, h1, h2, h3⟩
theorem two_cells {w : World} {g t : Nat} {a b c a' b' c' : Value} (h : w.heap[g]? = some (.cells #[a, b, c] t (0, 0))) (h' : w.heap[g]? = some (.cells #[a', b', c'] t (0, 0))) : a = a' ∧ b = b' ∧ c = c' := by
  rw [h] at h'
  injection h' with h'; injection h' with h'
  refine ⟨?_, ?_, ?_⟩
  · have := congrArg (fun a => a[0]?) h'; simpa using this
  · have := congrArg (fun a => a[1]?) h'; simpa using this
  · have := congrArg (fun a => a[2]?) h'; simpa using this
/-- an owned row lies not in a block of another type that is written -/
theorem own_set {w : World} {b1 e1 s1 n1 g t : Nat} {v1 : Value} {x1 : List Value} {cs : Array Value} (h : w.ownsRow b1 e1 s1 v1 n1 x1) (hb : w.heap[g]? = some (.cells cs t (0, 0))) (hne : e1 ≠ t) (i : Nat) (u : Value) : (w.setCell ⟨g, i, none⟩ u).ownsRow b1 e1 s1 v1 n1 x1 :=
  own_keep h (F := [g]) ((Chg.refl [g] w).set _ _ (.inl (by simp))) (fun b hb' hm => by
    have : b = g := by simpa using hm
    subst this
    exact own_blk_ne h hb hne hb')
/-- where a row of numbers has grown -/
theorem ints_grown {w w1 : World} {base : Nat} {v : Value} {l : List Int} (hv : Ints w base v l) (k : Chg (ob v) w w1) :
    (∀ {b e s n : Nat} {u : Value} {xs : List Value}, w.ownsRow b e s u n xs → e ≠ 3 → w1.ownsRow b e s u n xs) ∧ (∀ {g t : Nat} {cs : Array Value}, w.heap[g]? = some (.cells cs t (0, 0)) → t ≠ 3 → w1.heap[g]? = some (.cells cs t (0, 0))) :=
  ⟨fun hu hne => own_keep hu k (fun b hb hm => own_ne hu hv hne b hb (mem_ob.1 hm)), fun hb hne => k.at hb (fun hm => own_blk_ne hv hb (Ne.symm hne) (mem_ob.1 hm))⟩
theorem IsRd.tops_ {w w1 : World} {base g : Nat} {rs : List (Nd × Value)} {tops : List Int} {v1 : Value} {os : List (Pt × Nat × Value)} (h : IsRd w base g rs tops v1 os) (k : Chg (ob v1) w w1) {u : Value} (n : Int) (hu : Ints w1 base u (tops ++ [n])) (hf : ∀ k, u.ownBlock = some k → v1.ownBlock = some k ∨ w.heap.size ≤ k) :
    IsRd (w1.setCell ⟨g, 1, none⟩ u) base g rs (tops ++ [n]) u os := by
  obtain ⟨kt, kb⟩ := ints_grown h.top k
  obtain ⟨⟨v0, v2, h1, h2, h3⟩, hg, ht, ho, hn, hi, ha⟩ := h
  have hb1 := kb h1 (by decide)
  have ha1 := List.pairwise_cons.1 ha
  have ki : ∀ {v : Value} {l : List Int}, Ints w base v l → v ∈ os.map (·.2.2) ++ rs.map (·.2) → Ints (w1.setCell ⟨g, 1, none⟩ u) base v l := fun {v l} hh hm => by
    have s1 : Ints w1 base v l := own_keep hh k (fun b hb' hm' => ha1.1 v hm b (mem_ob.1 hm') hb')
    exact own_set s1 hb1 (by decide) 1 u
  refine ⟨⟨v0, v2, ?_, own_set (kt h2 (by decide)) hb1 (by decide) 1 u, own_set (kt h3 (by decide)) hb1 (by decide) 1 u⟩, hg, own_set hu hb1 (by decide) 1 u, fun o hh => ⟨(ho o hh).1, ?_, ki (ho o hh).2.2 (List.mem_append_left _ (List.mem_map_of_mem hh))⟩, hn, fun p hp => ki (hi p hp) (List.mem_append_right _ (List.mem_map_of_mem hp)), List.pairwise_cons.2 ⟨?_, ha1.2⟩⟩
  · have := blk_set hb1 1 u
    simpa using this
  · have s1 := kb (ho o hh).2.1 (by decide)
    exact blk_far s1 (blk_ne s1 hb1 (by decide)) u
  · intro v hv kk hk hk'
    rcases hf kk hk with h | h
    · exact ha1.1 v hv kk h hk'
    · have hlt : kk < w.heap.size := by
        rcases List.mem_append.1 hv with hv | hv
        · obtain ⟨o, hh, rfl⟩ := List.mem_map.1 hv
          exact ((ho o hh).2.2.lt kk hk').2
        · obtain ⟨p, hp, rfl⟩ := List.mem_map.1 hv
          exact ((hi p hp).lt kk hk').2
      omega
/-- what was opened last has one datum more -/
theorem IsRd.more {w w1 : World} {base g : Nat} {rs : List (Nd × Value)} {tops : List Int} {v1 : Value} {o : Pt} {b : Nat} {v : Value} {os : List (Pt × Nat × Value)} (h : IsRd w base g rs tops v1 ((o, b, v) :: os)) (k : Chg (ob v) w w1) {u : Value} (n : Int) (hu : Ints w1 base u (o.l ++ [n])) (hf : ∀ k, u.ownBlock = some k → v.ownBlock = some k ∨ w.heap.size ≤ k) :
    IsRd (w1.setCell ⟨b, 2, none⟩ u) base g rs tops v1 ((⟨o.at_, o.quote, o.l ++ [n]⟩, b, u) :: os) := by
  have hv := (h.ops _ (List.mem_cons_self ..)).2.2
  obtain ⟨kt, kb⟩ := ints_grown hv k
  obtain ⟨⟨v0, v2, h1, h2, h3⟩, hg, ht, ho, hn, hi, ha⟩ := h
  have hob := (ho _ (List.mem_cons_self ..)).2.1
  have hb1 := kb hob (by decide)
  have hbg := kb h1 (by decide)
  simp only [List.map_cons, List.cons_append] at ha
  have hap : ∀ x, x = v1 ∨ x ∈ os.map (·.2.2) ++ rs.map (·.2) → ∀ k, v.ownBlock = some k → x.ownBlock ≠ some k := by
    intro x hx kk hk hk'
    obtain ⟨a1, a2⟩ := List.pairwise_cons.1 ha
    rcases hx with rfl | hx
    · exact a1 v (List.mem_cons_self ..) kk hk' hk
    · exact (List.pairwise_cons.1 a2).1 x hx kk hk hk'
  have ki : ∀ {x : Value} {l : List Int}, Ints w base x l → (x = v1 ∨ x ∈ os.map (·.2.2) ++ rs.map (·.2)) → Ints (w1.setCell ⟨b, 2, none⟩ u) base x l := fun {x l} hh hm => by
    have s1 : Ints w1 base x l := own_keep hh k (fun b' hb' hm' => hap x hm b' (mem_ob.1 hm') hb')
    exact own_set s1 hb1 (by decide) 2 u
  refine ⟨⟨v0, v2, ?_, own_set (kt h2 (by decide)) hb1 (by decide) 2 u, by simpa using own_set (kt h3 (by decide)) hb1 (by decide) 2 u⟩, hg, ki ht (.inl rfl), fun o' hh => ?_, hn, fun p hp => ki (hi p hp) (.inr (List.mem_append_right _ (List.mem_map_of_mem hp))), ?_⟩
  · exact blk_far hbg (blk_ne hbg hb1 (by decide)) u
  · rcases List.mem_cons.1 hh with rfl | hh
    · refine ⟨(ho _ (List.mem_cons_self ..)).1, ?_, own_set hu hb1 (by decide) 2 u⟩
      have := blk_set hb1 2 u
      simpa using this
    · have hmem := List.mem_cons_of_mem (o, b, v) hh
      refine ⟨(ho o' hmem).1, ?_, ki (ho o' hmem).2.2 (.inr (List.mem_append_left _ (List.mem_map_of_mem hh)))⟩
      have s1 := kb (ho o' hmem).2.1 (by decide)
      refine blk_far s1 (fun e => ?_) u
      have := (List.nodup_cons.1 hn).1
      exact this (List.mem_map.2 ⟨o', hh, e⟩)
  · have fresh : ∀ x, x = v1 ∨ x ∈ os.map (·.2.2) ++ rs.map (·.2) → ∀ k, u.ownBlock = some k → x.ownBlock ≠ some k := by
      intro x hx kk hk hk'
      rcases hf kk hk with h | h
      · exact hap x hx kk h hk'
      · have hlt : kk < w.heap.size := by
          rcases hx with rfl | hx
          · exact (ht.lt kk hk').2
          · rcases List.mem_append.1 hx with hx | hx
            · obtain ⟨o', hh, rfl⟩ := List.mem_map.1 hx
              exact ((ho o' (List.mem_cons_of_mem _ hh)).2.2.lt kk hk').2
            · obtain ⟨p, hp, rfl⟩ := List.mem_map.1 hx
              exact ((hi p hp).lt kk hk').2
        omega
    obtain ⟨a1, a2⟩ := List.pairwise_cons.1 ha
    obtain ⟨a3, a4⟩ := List.pairwise_cons.1 a2
    simp only [List.map_cons, List.cons_append]
    refine List.pairwise_cons.2 ⟨fun x hx kk hk hk' => ?_, List.pairwise_cons.2 ⟨fun x hx kk hk => fresh x (.inr hx) kk hk, a4⟩⟩
    rcases List.mem_cons.1 hx with rfl | hx
    · exact fresh v1 (.inl rfl) kk hk' hk
    · exact a1 x (List.mem_cons_of_mem _ hx) kk hk hk'
/-- a shorter row -/
theorem own_less {w : World} {base e size n m c : Nat} {A : Option Addr} {xs : List Value} (h : w.ownsRow base e size (.slice A n c) n xs) (hm : m ≤ n) (hA : 0 < n) : w.ownsRow base e size (.slice A m c) m (xs.take (m * size)) := by
  obtain ⟨hl, h2⟩ := h
  have hmn : m * size ≤ n * size := Nat.mul_le_mul_right _ hm
  refine ⟨by rw [List.length_take]; omega, ?_⟩
  rcases h2 with ⟨h3, h4⟩ | ⟨g, cap, cur, h3, h4, h5, h6, h7, h8, h9⟩
  · omega
  · simp only [Value.slice.injEq] at h3
    obtain ⟨rfl, _, rfl⟩ := h3
    refine .inr ⟨g, c, cur, rfl, h4, h5, by omega, h7, h8, ?_⟩
    rw [← h9, List.take_take, Nat.min_eq_left hmn]
/-- what was opened last is taken away -/
theorem IsRd.pop {w : World} {base g : Nat} {rs : List (Nd × Value)} {tops : List Int} {v0 v1 : Value} {A : Option Addr} {c : Nat} {o : Pt} {b : Nat} {v : Value} {os : List (Pt × Nat × Value)} (h : IsRd w base g rs tops v1 ((o, b, v) :: os)) (hb : w.heap[g]? = some (.cells #[v0, v1, .slice A (os.length + 1) c] 46 (0, 0))) :
    IsRd (w.setCell ⟨g, 2, none⟩ (.slice A os.length c)) base g rs tops v1 os ∧ Ints (w.setCell ⟨g, 2, none⟩ (.slice A os.length c)) base v o.l ∧ (∀ x ∈ v1 :: (os.map (·.2.2) ++ rs.map (·.2)), ∀ k, x.ownBlock = some k → v.ownBlock ≠ some k) := by
  obtain ⟨⟨v0', v2', h1, h2, h3⟩, hg, ht, ho, hn, hi, ha⟩ := h
  obtain ⟨rfl, _, rfl⟩ := two_cells hb h1
  simp only [List.length_cons, List.reverse_cons, List.map_append] at h3
  have h4 := own_less h3 (m := os.length) (by omega) (by omega)
  rw [Nat.mul_one, show os.length = (os.reverse.map fun o : Pt × Nat × Value => (Value.pointer (some ⟨o.2.1, 0, none⟩))).length from by simp, List.take_left] at h4
  rw [show (os.reverse.map fun o : Pt × Nat × Value => (Value.pointer (some ⟨o.2.1, 0, none⟩))).length = os.length from by simp] at h4
  simp only [List.map_cons, List.cons_append] at ha
  obtain ⟨a1, a2⟩ := List.pairwise_cons.1 ha
  obtain ⟨a3, a4⟩ := List.pairwise_cons.1 a2
  refine ⟨⟨⟨v0, _, ?_, own_set h2 hb (by decide) 2 _, own_set h4 hb (by decide) 2 _⟩, hg, own_set ht hb (by decide) 2 _, fun o' hh => ?_, (List.nodup_cons.1 hn).2, fun p hp => own_set (hi p hp) hb (by decide) 2 _, List.pairwise_cons.2 ⟨fun x hx => a1 x (List.mem_cons_of_mem _ hx), a4⟩⟩, own_set (ho _ (List.mem_cons_self ..)).2.2 hb (by decide) 2 _, ?_⟩
  · have := blk_set hb 2 (.slice A os.length c)
    simpa using this
  · have hm := List.mem_cons_of_mem (o, b, v) hh
    have s1 := (ho o' hm).2.1
    exact ⟨(ho o' hm).1, blk_far s1 (blk_ne s1 hb (by decide)) _, own_set (ho o' hm).2.2 hb (by decide) 2 _⟩
  · intro x hx kk hk hk'
    rcases List.mem_cons.1 hx with rfl | hx
    · exact a1 v (List.mem_cons_self ..) kk hk hk'
    · exact a3 x hx kk hk' hk
/-- something is opened -/
theorem IsRd.push {w w1 : World} {base g : Nat} {rs : List (Nd × Value)} {tops : List Int} {v0 v1 v2 : Value} {os : List (Pt × Nat × Value)} (h : IsRd w base g rs tops v1 os) (hb : w.heap[g]? = some (.cells #[v0, v1, v2] 46 (0, 0))) (k : Chg (ob v2) w w1) {u : Value} (o : Pt) (b : Nat) (hl : o.l = []) (hbw : base ≤ b ∧ ∀ o' ∈ os, o'.2.1 ≠ b)
    (hob : w1.heap[b]? = some (.cells #[.int .i64 o.at_, .bool o.quote, .slice none 0 0] 53 (0, 0))) (hu : w1.ownsRow base 50 1 u (os.length + 1) ((os.reverse.map fun o => .pointer (some ⟨o.2.1, 0, none⟩)) ++ [.pointer (some ⟨b, 0, none⟩)])) :
    IsRd (w1.setCell ⟨g, 2, none⟩ u) base g rs tops v1 ((o, b, .slice none 0 0) :: os) := by
  obtain ⟨⟨v0', v2', h1, h2, h3⟩, hg, ht, ho, hn, hi, ha⟩ := h
  obtain ⟨rfl, _, rfl⟩ := two_cells hb h1
  have kt : ∀ {b e s n : Nat} {u : Value} {xs : List Value}, w.ownsRow b e s u n xs → e ≠ 50 → w1.ownsRow b e s u n xs := fun hu hne => own_keep hu k (fun b hb hm => own_ne hu h3 hne b hb (mem_ob.1 hm))
  have kb : ∀ {g t : Nat} {cs : Array Value}, w.heap[g]? = some (.cells cs t (0, 0)) → t ≠ 50 → w1.heap[g]? = some (.cells cs t (0, 0)) := fun hb hne => k.at hb (fun hm => own_blk_ne h3 hb (Ne.symm hne) (mem_ob.1 hm))
  have hb1 := kb hb (by decide)
  refine ⟨⟨v0, u, ?_, own_set (kt h2 (by decide)) hb1 (by decide) 2 u, ?_⟩, hg, own_set (kt ht (by decide)) hb1 (by decide) 2 u, fun o' hh => ?_, ?_, fun p hp => own_set (kt (hi p hp) (by decide)) hb1 (by decide) 2 u, ?_⟩
  · have := blk_set hb1 2 u
    simpa using this
  · rw [List.reverse_cons, List.map_append]
    exact own_set hu hb1 (by decide) 2 u
  · rcases List.mem_cons.1 hh with rfl | hh
    · refine ⟨hbw.1, blk_far hob (blk_ne hob hb1 (by decide)) u, ?_⟩
      show Ints _ base (.slice none 0 0) o.l
      rw [hl]
      exact ints_nil _ _
    · have s1 := kb (ho o' hh).2.1 (by decide)
      exact ⟨(ho o' hh).1, blk_far s1 (blk_ne s1 hb1 (by decide)) u, own_set (kt (ho o' hh).2.2 (by decide)) hb1 (by decide) 2 u⟩
  · refine List.nodup_cons.2 ⟨fun hm => ?_, hn⟩
    obtain ⟨o', hh, e⟩ := List.mem_map.1 hm
    exact hbw.2 o' hh e
  · simp only [List.map_cons, List.cons_append]
    obtain ⟨a1, a2⟩ := List.pairwise_cons.1 ha
    refine List.pairwise_cons.2 ⟨fun x hx kk hk hk' => ?_, List.pairwise_cons.2 ⟨fun x _ kk hk => by simp [Value.ownBlock] at hk, a2⟩⟩
    rcases List.mem_cons.1 hx with rfl | hx
    · simp [Value.ownBlock] at hk'
    · exact a1 x hx kk hk hk'
end Go.Proofs.YthfbkhjcnfjmmaaDoor.ReadM

import Derived.Test.YthfbkhjcnfjmmaaDoorReadW
namespace Go.Proofs.YthfbkhjcnfjmmaaDoor.RefR
open Go Go.RowKit Go.Proofs.YthfbkhjcnfjmmaaDoor.Heap Go.Proofs.YthfbkhjcnfjmmaaDoor.ReadP Go.Proofs.YthfbkhjcnfjmmaaDoor.ReadM
open Go.Proofs.YthfbkhjcnfjmmaaDoor.Own (ob mem_ob own_slice own_keep Src add_flat app app_lit own_lit0 src_new one_nums)
open Go.Proofs.YthfbkhjcnfjmmaaDoorW.PrintWords (Aside0 below_then below_alloc own_typed)
/-- the cells of what is open -/
def partC (o : Pt × Value) : List Value := [.int .i64 o.1.at_, .bool o.1.quote, o.2]
/-- the document's reader: its data, which stand by themselves, what is open (the last one first; each with its row) -/
structure IsRf (w : World) (base g : Nat) (rs : List (Nd × Value)) (tops : List Int) (v1 : Value) (os : List (Pt × Value)) : Prop where
  ex : ∃ v0 v2, w.heap[g]? = some (.cells #[v0, v1, v2] 57 (0, 0)) ∧ Nodes w base v0 rs ∧ w.ownsRow base 59 3 v2 os.length (os.reverse.flatMap partC)
  hg : base ≤ g
  top : Ints w base v1 tops
  ops : ∀ o ∈ os, Ints w base o.2 o.1.l
  inn : ∀ p ∈ rs, Ints w base p.2 p.1.l
  apart : Apart (v1 :: (os.map (·.2) ++ rs.map (·.2)))
theorem IsRf.chg {w w' : World} {base g : Nat} {rs : List (Nd × Value)} {tops : List Int} {v1 : Value} {os : List (Pt × Value)} (h : IsRf w base g rs tops v1 os) (k : Chg [] w w') : IsRf w' base g rs tops v1 os := by
  obtain ⟨⟨v0, v2, h1, h2, h3⟩, hg, ht, ho, hi, ha⟩ := h
  exact ⟨⟨v0, v2, k.at h1 (by simp), own_keep h2 k (by simp), own_keep h3 k (by simp)⟩, hg, own_keep ht k (by simp), fun o hh => own_keep (ho o hh) k (by simp), fun p hp => own_keep (hi p hp) k (by simp), ha⟩
theorem IsRf.cells {w : World} {base g : Nat} {rs : List (Nd × Value)} {tops : List Int} {v1 : Value} {os : List (Pt × Value)} (h : IsRf w base g rs tops v1 os) : ∃ v0 A B, w.heap[g]? = some (.cells #[v0, v1, .slice A os.length B] 57 (0, 0)) ∧ Nodes w base v0 rs ∧ w.ownsRow base 59 3 (.slice A os.length B) os.length (os.reverse.flatMap partC) := by
  obtain ⟨v0, v2, h1, h2, h3⟩ := h.ex
  obtain ⟨A, B, rfl⟩ := own_slice h3
  exact ⟨v0, A, B, h1, h2, h3⟩
theorem IsRf.base_le {w : World} {base g : Nat} {rs : List (Nd × Value)} {tops : List Int} {v1 : Value} {os : List (Pt × Value)} (h : IsRf w base g rs tops v1 os) : base ≤ w.heap.size ∧ g < w.heap.size := by
  have := h.hg; obtain ⟨_, _, _, hh, _, _⟩ := h.cells; have := blk_lt hh; omega
/-- a datum is put into the row -/
theorem IsRf.put {w w1 : World} {base g : Nat} {rs : List (Nd × Value)} {tops : List Int} {v1 : Value} {os : List (Pt × Value)} (h : IsRf w base g rs tops v1 os) {v0 v2 : Value} (hb : w.heap[g]? = some (.cells #[v0, v1, v2] 57 (0, 0))) (k : Chg (ob v0) w w1) {u : Value} (x : Nd) (Lx : Value) (hu : w1.ownsRow base 32 5 u (rs.length + 1) (rs.flatMap nodeC ++ nodeC (x, Lx)))
    (hx : Ints w1 base Lx x.l) (hax : ∀ v ∈ v1 :: (os.map (·.2) ++ rs.map (·.2)), ∀ k, v.ownBlock = some k → Lx.ownBlock ≠ some k) :
    IsRf (w1.setCell ⟨g, 0, none⟩ u) base g (rs ++ [(x, Lx)]) tops v1 os := by
  obtain ⟨⟨v0', v2', h1, h2, h3⟩, hg, ht, ho, hi, ha⟩ := h
  obtain ⟨rfl, _, rfl⟩ := two_cells hb h1
  have kg : g ∉ ob v0 := fun hm => own_blk_ne h2 hb (by decide) (mem_ob.1 hm)
  have hb1 := k.at hb kg
  have ki : ∀ {v : Value} {l : List Int}, Ints w base v l → Ints (w1.setCell ⟨g, 0, none⟩ u) base v l := fun {v l} hh =>
    own_set (own_keep hh k (fun b hb' hm => own_ne hh h2 (by decide) b hb' (mem_ob.1 hm))) hb1 (by decide) 0 u
  have kx : Ints (w1.setCell ⟨g, 0, none⟩ u) base Lx x.l := own_set hx hb1 (by decide) 0 u
  refine ⟨⟨u, v2, ?_, ?_, own_set (own_keep h3 k (fun b hb' hm => own_ne h3 h2 (by decide) b hb' (mem_ob.1 hm))) hb1 (by decide) 0 u⟩, hg, ki ht, fun o hh => ki (ho o hh), fun p hp => ?_, ?_⟩
  · have := blk_set hb1 0 u
    simpa using this
  · unfold Nodes
    rw [List.length_append, List.flatMap_append, List.flatMap_singleton]
    exact own_set hu hb1 (by decide) 0 u
  · rcases List.mem_append.1 hp with hp | hp
    · exact ki (hi p hp)
    · have : p = (x, Lx) := by simpa using hp
      subst this
      exact kx
  · rw [List.map_append, ← List.append_assoc, ← List.cons_append]
    exact List.pairwise_append.2 ⟨ha, by simp, fun a ha' b hb' => by
      have : b = Lx := by simpa using hb'
      subst this
      exact hax a ha'⟩
theorem IsRf.tops_ {w w1 : World} {base g : Nat} {rs : List (Nd × Value)} {tops : List Int} {v1 : Value} {os : List (Pt × Value)} (h : IsRf w base g rs tops v1 os) (k : Chg (ob v1) w w1) {u : Value} (n : Int) (hu : Ints w1 base u (tops ++ [n])) (hf : ∀ k, u.ownBlock = some k → v1.ownBlock = some k ∨ w.heap.size ≤ k) :
    IsRf (w1.setCell ⟨g, 1, none⟩ u) base g rs (tops ++ [n]) u os := by
  obtain ⟨kt, kb⟩ := ints_grown h.top k
  obtain ⟨⟨v0, v2, h1, h2, h3⟩, hg, ht, ho, hi, ha⟩ := h
  have hb1 := kb h1 (by decide)
  have ha1 := List.pairwise_cons.1 ha
  have ki : ∀ {v : Value} {l : List Int}, Ints w base v l → v ∈ os.map (·.2) ++ rs.map (·.2) → Ints (w1.setCell ⟨g, 1, none⟩ u) base v l := fun {v l} hh hm =>
    own_set (own_keep hh k (fun b hb' hm' => ha1.1 v hm b (mem_ob.1 hm') hb')) hb1 (by decide) 1 u
  refine ⟨⟨v0, v2, ?_, own_set (kt h2 (by decide)) hb1 (by decide) 1 u, own_set (kt h3 (by decide)) hb1 (by decide) 1 u⟩, hg, own_set hu hb1 (by decide) 1 u, fun o hh => ki (ho o hh) (List.mem_append_left _ (List.mem_map_of_mem hh)), fun p hp => ki (hi p hp) (List.mem_append_right _ (List.mem_map_of_mem hp)), List.pairwise_cons.2 ⟨?_, ha1.2⟩⟩
  · have := blk_set hb1 1 u
    simpa using this
  · intro v hv kk hk hk'
    rcases hf kk hk with h | h
    · exact ha1.1 v hv kk h hk'
    · have hlt : kk < w.heap.size := by
        rcases List.mem_append.1 hv with hv | hv
        · obtain ⟨o, hh, rfl⟩ := List.mem_map.1 hv
          exact ((ho o hh).lt kk hk').2
        · obtain ⟨p, hp, rfl⟩ := List.mem_map.1 hv
          exact ((hi p hp).lt kk hk').2
      omega
/-- an owned row, one of whose cells is written -/
theorem own_cell {w : World} {base e size n gb c : Nat} {xs : List Value} (h : w.ownsRow base e size (.slice (some ⟨gb, 0, none⟩) n c) n xs) (i : Nat) (u : Value) : (w.setCell ⟨gb, i, none⟩ u).ownsRow base e size (.slice (some ⟨gb, 0, none⟩) n c) n (xs.set i u) := by
  rcases h.2 with ⟨h1, _⟩ | ⟨g', cap, cur, h1, hb, hg, hnc, hc, hz, ht⟩
  · cases h1
  · cases h1
    refine ⟨by simpa using h.1, .inr ⟨gb, c, cur.setIfInBounds i u, rfl, hb, blk_set hg _ _, hnc, hc, by simpa using hz, ?_⟩⟩
    rw [← ht]; simp [List.take_set]
theorem parts_set (os : List (Pt × Value)) (o : Pt) (v u : Value) (l : List Int) : ((((o, v) :: os).reverse.flatMap partC).set (os.length * 3 + 2) u) = (((⟨o.at_, o.quote, l⟩, u) :: os) : List (Pt × Value)).reverse.flatMap partC := by
  have hl : ∀ (zs : List (Pt × Value)), (zs.flatMap partC).length = zs.length * 3 := by
    intro zs; induction zs with
    | nil => rfl
    | cons a zs ih => rw [List.flatMap_cons, List.length_append, ih]; simp [partC]; omega
  rw [List.reverse_cons, List.reverse_cons, List.flatMap_append, List.flatMap_append, List.flatMap_singleton, List.flatMap_singleton, List.set_append_right _ _ (by rw [hl]; simp), hl, List.length_reverse, Nat.add_sub_cancel_left]
  rfl
/-- what was opened last has one datum more -/
theorem IsRf.more {w w1 : World} {base g gb c : Nat} {rs : List (Nd × Value)} {tops : List Int} {v0 v1 : Value} {o : Pt} {v : Value} {os : List (Pt × Value)} (h : IsRf w base g rs tops v1 ((o, v) :: os)) (hb : w.heap[g]? = some (.cells #[v0, v1, .slice (some ⟨gb, 0, none⟩) (os.length + 1) c] 57 (0, 0))) (k : Chg (ob v) w w1) {u : Value} (n : Int) (hu : Ints w1 base u (o.l ++ [n])) (hf : ∀ k, u.ownBlock = some k → v.ownBlock = some k ∨ w.heap.size ≤ k) :
    IsRf (w1.setCell ⟨gb, os.length * 3 + 2, none⟩ u) base g rs tops v1 ((⟨o.at_, o.quote, o.l ++ [n]⟩, u) :: os) := by
  have hv := h.ops _ (List.mem_cons_self ..)
  obtain ⟨kt, kb⟩ := ints_grown hv k
  obtain ⟨⟨v0', v2', h1, h2, h3⟩, hg, ht, ho, hi, ha⟩ := h
  obtain ⟨rfl, _, rfl⟩ := two_cells hb h1
  simp only [List.length_cons] at h3
  have hbg := kb h1 (by decide)
  have h3' := kt h3 (by decide)
  obtain ⟨cs, hgb⟩ := own_typed h3' gb rfl
  simp only [List.map_cons, List.cons_append] at ha
  have hap : ∀ x, x = v1 ∨ x ∈ os.map (·.2) ++ rs.map (·.2) → ∀ k, v.ownBlock = some k → x.ownBlock ≠ some k := by
    intro x hx kk hk hk'
    obtain ⟨a1, a2⟩ := List.pairwise_cons.1 ha
    rcases hx with rfl | hx
    · exact a1 v (List.mem_cons_self ..) kk hk' hk
    · exact (List.pairwise_cons.1 a2).1 x hx kk hk hk'
  have ki : ∀ {x : Value} {l : List Int}, Ints w base x l → (x = v1 ∨ x ∈ os.map (·.2) ++ rs.map (·.2)) → Ints (w1.setCell ⟨gb, os.length * 3 + 2, none⟩ u) base x l := fun {x l} hh hm =>
    own_set (own_keep hh k (fun b' hb' hm' => hap x hm b' (mem_ob.1 hm') hb')) hgb (by decide) _ u
  refine ⟨⟨v0, .slice (some ⟨gb, 0, none⟩) (os.length + 1) c, ?_, own_set (kt h2 (by decide)) hgb (by decide) _ u, ?_⟩, hg, ki ht (.inl rfl), fun o' hh => ?_, fun p hp => ki (hi p hp) (.inr (List.mem_append_right _ (List.mem_map_of_mem hp))), ?_⟩
  · exact blk_far hbg (blk_ne hbg hgb (by decide)) u
  · have := own_cell h3' (os.length * 3 + 2) u
    rw [parts_set os o v u (o.l ++ [n])] at this
    exact this
  · rcases List.mem_cons.1 hh with rfl | hh
    · exact own_set hu hgb (by decide) _ u
    · exact ki (ho o' (List.mem_cons_of_mem _ hh)) (.inr (List.mem_append_left _ (List.mem_map_of_mem hh)))
  · have fresh : ∀ x, x = v1 ∨ x ∈ os.map (·.2) ++ rs.map (·.2) → ∀ k, u.ownBlock = some k → x.ownBlock ≠ some k := by
      intro x hx kk hk hk'
      rcases hf kk hk with h | h
      · exact hap x hx kk h hk'
      · have hlt : kk < w.heap.size := by
          rcases hx with rfl | hx
          · exact (ht.lt kk hk').2
          · rcases List.mem_append.1 hx with hx | hx
            · obtain ⟨o', hh, rfl⟩ := List.mem_map.1 hx
              exact ((ho o' (List.mem_cons_of_mem _ hh)).lt kk hk').2
            · obtain ⟨p, hp, rfl⟩ := List.mem_map.1 hx
              exact ((hi p hp).lt kk hk').2
        omega
    obtain ⟨a1, a2⟩ := List.pairwise_cons.1 ha
    obtain ⟨a3, a4⟩ := List.pairwise_cons.1 a2
    simp only [List.map_cons, List.cons_append]
    refine List.pairwise_cons.2 ⟨fun x hx kk hk hk' => ?_, List.pairwise_cons.2 ⟨fun x hx kk hk => fresh x (.inr hx) kk hk, a4⟩⟩
    rcases List.mem_cons.1 hx with rfl | hx
    · exact fresh v1 (.inl rfl) kk hk' hk
    · exact a1 x (List.mem_cons_of_mem _ hx) kk hk hk'
theorem own_lower {w : World} {base base' e size n : Nat} {v : Value} {xs : List Value} (h : w.ownsRow base e size v n xs) (hb : base' ≤ base) : w.ownsRow base' e size v n xs := by
  refine ⟨h.1, h.2.imp id ?_⟩
  rintro ⟨g, cap, cur, rfl, hb', hg⟩
  exact ⟨g, cap, cur, rfl, Nat.le_trans hb hb', hg⟩
/-- what was opened last is taken away: what is left is made anew -/
theorem IsRf.pop {w w1 : World} {base g : Nat} {rs : List (Nd × Value)} {tops : List Int} {v0 v1 v2 u : Value} {o : Pt} {v : Value} {os : List (Pt × Value)} (h : IsRf w base g rs tops v1 ((o, v) :: os)) (hb : w.heap[g]? = some (.cells #[v0, v1, v2] 57 (0, 0))) (k : Chg [] w w1) (hu : w1.ownsRow base 59 3 u os.length (os.reverse.flatMap partC)) :
    IsRf (w1.setCell ⟨g, 2, none⟩ u) base g rs tops v1 os ∧ Ints (w1.setCell ⟨g, 2, none⟩ u) base v o.l ∧ (∀ x ∈ v1 :: (os.map (·.2) ++ rs.map (·.2)), ∀ k, x.ownBlock = some k → v.ownBlock ≠ some k) := by
  have hb1 := k.at hb (by simp)
  obtain ⟨⟨v0', v2', h1, h2, h3⟩, hg, ht, ho, hi, ha⟩ := h.chg k
  obtain ⟨rfl, _, rfl⟩ := two_cells hb1 h1
  simp only [List.map_cons, List.cons_append] at ha
  obtain ⟨a1, a2⟩ := List.pairwise_cons.1 ha
  obtain ⟨a3, a4⟩ := List.pairwise_cons.1 a2
  refine ⟨⟨⟨v0, u, ?_, own_set h2 hb1 (by decide) 2 _, own_set hu hb1 (by decide) 2 _⟩, hg, own_set ht hb1 (by decide) 2 _, fun o' hh => own_set (ho o' (List.mem_cons_of_mem _ hh)) hb1 (by decide) 2 _, fun p hp => own_set (hi p hp) hb1 (by decide) 2 _, List.pairwise_cons.2 ⟨fun x hx => a1 x (List.mem_cons_of_mem _ hx), a4⟩⟩, own_set (ho _ (List.mem_cons_self ..)) hb1 (by decide) 2 _, ?_⟩
  · have := blk_set hb1 2 u
    simpa using this
  · intro x hx kk hk hk'
    rcases List.mem_cons.1 hx with rfl | hx
    · exact a1 v (List.mem_cons_self ..) kk hk hk'
    · exact a3 x hx kk hk' hk
/-- something is opened -/
theorem IsRf.push {w w1 : World} {base g : Nat} {rs : List (Nd × Value)} {tops : List Int} {v0 v1 v2 : Value} {os : List (Pt × Value)} (h : IsRf w base g rs tops v1 os) (hb : w.heap[g]? = some (.cells #[v0, v1, v2] 57 (0, 0))) (k : Chg (ob v2) w w1) {u : Value} (o : Pt) (hl : o.l = [])
    (hu : w1.ownsRow base 59 3 u (os.length + 1) (os.reverse.flatMap partC ++ partC (o, .slice none 0 0))) :
    IsRf (w1.setCell ⟨g, 2, none⟩ u) base g rs tops v1 ((o, .slice none 0 0) :: os) := by
  obtain ⟨⟨v0', v2', h1, h2, h3⟩, hg, ht, ho, hi, ha⟩ := h
  obtain ⟨rfl, _, rfl⟩ := two_cells hb h1
  have kt : ∀ {b e s n : Nat} {u : Value} {xs : List Value}, w.ownsRow b e s u n xs → e ≠ 59 → w1.ownsRow b e s u n xs := fun hu hne => own_keep hu k (fun b hb hm => own_ne hu h3 hne b hb (mem_ob.1 hm))
  have hb1 := k.at hb (fun hm => own_blk_ne h3 hb (by decide) (mem_ob.1 hm))
  refine ⟨⟨v0, u, ?_, own_set (kt h2 (by decide)) hb1 (by decide) 2 u, ?_⟩, hg, own_set (kt ht (by decide)) hb1 (by decide) 2 u, fun o' hh => ?_, fun p hp => own_set (kt (hi p hp) (by decide)) hb1 (by decide) 2 u, ?_⟩
  · have := blk_set hb1 2 u
    simpa using this
  · rw [List.reverse_cons, List.flatMap_append, List.flatMap_singleton]
    exact own_set hu hb1 (by decide) 2 u
  · rcases List.mem_cons.1 hh with rfl | hh
    · show Ints _ base (.slice none 0 0) o.l
      rw [hl]
      exact ints_nil _ _
    · exact own_set (kt (ho o' hh) (by decide)) hb1 (by decide) 2 u
  · simp only [List.map_cons, List.cons_append]
    obtain ⟨a1, a2⟩ := List.pairwise_cons.1 ha
    refine List.pairwise_cons.2 ⟨fun x hx kk hk hk' => ?_, List.pairwise_cons.2 ⟨fun x _ kk hk => by simp [Value.ownBlock] at hk, a2⟩⟩
    rcases List.mem_cons.1 hx with rfl | hx
    · simp [Value.ownBlock] at hk'
    · exact a1 x hx kk hk hk'
/-- what is known of the last one that is open, as cells -/
theorem IsRf.last {w : World} {base g : Nat} {rs : List (Nd × Value)} {tops : List Int} {v1 : Value} {o : Pt} {v : Value} {os : List (Pt × Value)} (h : IsRf w base g rs tops v1 ((o, v) :: os)) : ∃ v0 gb c, w.heap[g]? = some (.cells #[v0, v1, .slice (some ⟨gb, 0, none⟩) (os.length + 1) c] 57 (0, 0)) ∧ Nodes w base v0 rs ∧ w.ownsRow base 59 3 (.slice (some ⟨gb, 0, none⟩) (os.length + 1) c) (os.length + 1) (((o, v) :: os).reverse.flatMap partC) ∧ os.length + 1 ≤ c ∧ (∃ cs, w.heap[gb]? = some (.cells cs 59 (0, 0))) ∧
    w.cell? ⟨gb, os.length * 3, none⟩ = some (.int .i64 o.at_) ∧ w.cell? ⟨gb, os.length * 3 + 1, none⟩ = some (.bool o.quote) ∧ w.cell? ⟨gb, os.length * 3 + 2, none⟩ = some v := by
  obtain ⟨v0, A, c, hb, hn, ho⟩ := h.cells
  rw [List.length_cons] at hb ho
  have hc := own_cap ho
  rcases ho.2 with ⟨h1, _⟩ | ⟨gb, cap, cur, h1, _⟩
  · simp at h1
  · simp only [Value.slice.injEq] at h1
    obtain ⟨rfl, _, _⟩ := h1
    obtain ⟨b, p, h3, _, hcl⟩ := (Src.own ho).pl (by omega) (by decide)
    injection h3 with h3
    injection h3 with h3 h4
    subst h3; subst h4
    have hl : ∀ (zs : List (Pt × Value)), (zs.flatMap partC).length = zs.length * 3 := by
      intro zs; induction zs with
      | nil => rfl
      | cons a zs ih => rw [List.flatMap_cons, List.length_append, ih]; simp [partC]; omega
    have at_ : ∀ i, i < 3 → w.cell? ⟨gb, os.length * 3 + i, none⟩ = (partC (o, v))[i]? := fun i hi => by
      have hx : (((o, v) :: os).reverse.flatMap partC)[os.length * 3 + i]? = (partC (o, v))[i]? := by
        rw [List.reverse_cons, List.flatMap_append, List.flatMap_singleton, List.getElem?_append_right (by rw [hl]; simp), hl, List.length_reverse, Nat.add_sub_cancel_left]
      have : ∃ y, (partC (o, v))[i]? = some y := ⟨_, List.getElem?_eq_getElem (by simpa [partC] using hi)⟩
      obtain ⟨y, hy⟩ := this
      rw [hy] at hx
      have := hcl _ _ hx
      rw [Nat.zero_add] at this
      rw [this, hy]
    exact ⟨v0, gb, c, hb, hn, ho, hc, own_typed ho gb rfl, at_ 0 (by omega), at_ 1 (by omega), at_ 2 (by omega)⟩
end Go.Proofs.YthfbkhjcnfjmmaaDoor.RefR

/- What it is that a block is a reader, and what becomes of it where something is put; each states its conditions. -/
import Derived.Test.YtomhkemdafiphaaGreatDoorAppStep
import Derived.Test.YtomhkemdafiphaaGreatDoorShowP
import Derived.Test.YtomhkemdafiphaaGreatDoorWWords
import Derived.Lib.Hide
import Derived.Test.YtomhkemdafiphaaGreatDoorShelf
import Derived.WalkKit
import Derived.WalkMore
import Derived.BigQuiet
import Derived.Deep.QuietTactic
import Derived.IntWalk
import Derived.Deep.RegionLaw
import Derived.Deep.RegionHeld3
import Derived.BigRegion
import Derived.StillTailTactics
import Derived.Test.YtomhkemdafiphaaGreatDoorLexVars
namespace Go.Proofs.YtomhkemdafiphaaGreatDoor.ReadM
open Go Go.RowKit Go.Proofs.YtomhkemdafiphaaGreatDoor.Heap Go.Proofs.YtomhkemdafiphaaGreatDoor.Own Go.Proofs.YtomhkemdafiphaaGreatDoor.ReadP
open Go.Proofs.YtomhkemdafiphaaGreatDoorW.PrintWords (own_typed)
/-- a datum's cells -/
def nodeC (p : Nd × Value) : List Value := [.int .u8 p.1.kind, .int .i64 p.1.pos, .int .i64 p.1.n, .string ⟨p.1.s.toArray⟩, p.2]
def Ints (w : World) (base : Nat) (v : Value) (l : List Int) : Prop := w.ownsRow base 3 1 v l.length (nums .i64 l)
def Nodes (w : World) (base : Nat) (v : Value) (rs : List (Nd × Value)) : Prop := w.ownsRow base 34 5 v rs.length (rs.flatMap nodeC)
/-- rows that lie apart -/
def Apart (vs : List Value) : Prop := vs.Pairwise fun a b => ∀ k, a.ownBlock = some k → b.ownBlock ≠ some k
theorem own_ne {w : World} {b1 b2 e1 e2 s1 s2 n1 n2 : Nat} {v1 v2 : Value} {x1 x2 : List Value} (h1 : w.ownsRow b1 e1 s1 v1 n1 x1) (h2 : w.ownsRow b2 e2 s2 v2 n2 x2) (hne : e1 ≠ e2) : ∀ k, v1.ownBlock = some k → v2.ownBlock ≠ some k := by
  intro k hk1 hk2
  obtain ⟨c1, g1⟩ := own_typed h1 k hk1
  obtain ⟨c2, g2⟩ := own_typed h2 k hk2
  rw [g1] at g2
  injection g2 with g2
  injection g2 with _ g2
  exact hne g2
theorem own_blk_ne {w : World} {b1 e1 s1 n1 g t : Nat} {v1 : Value} {x1 : List Value} {cs : Array Value} (h1 : w.ownsRow b1 e1 s1 v1 n1 x1) (h2 : w.heap[g]? = some (.cells cs t (0, 0))) (hne : e1 ≠ t) : v1.ownBlock ≠ some g := by
  intro hk
  obtain ⟨c1, g1⟩ := own_typed h1 g hk
  rw [h2] at g1
  injection g1 with g1
  injection g1 with _ g1
  exact hne g1.symm
theorem keep_int {w w' : World} {base : Nat} {v : Value} {l : List Int} {F : List Nat} (h : Ints w base v l) (k : Chg F w w') (hF : ∀ b, v.ownBlock = some b → b ∉ F) : Ints w' base v l := own_keep h k hF
theorem ints_nil (w : World) (base : Nat) : Ints w base (.slice none 0 0) [] := World.ownsRow_nil _ _ _ _
/-- a reader: its data, which stand by themselves, what is open (the last one first; each with its block and its row) -/
structure IsRd (w : World) (base g : Nat) (rs : List (Nd × Value)) (tops : List Int) (v1 : Value) (os : List (Pt × Nat × Value)) : Prop where
  ex : ∃ v0 v2, w.heap[g]? = some (.cells #[v0, v1, v2] 83 (0, 0)) ∧ Nodes w base v0 rs ∧ w.ownsRow base 87 1 v2 os.length (os.reverse.map fun o => .pointer (some ⟨o.2.1, 0, none⟩))
  hg : base ≤ g
  top : Ints w base v1 tops
  ops : ∀ o ∈ os, base ≤ o.2.1 ∧ w.heap[o.2.1]? = some (.cells #[.int .i64 o.1.at_, .bool o.1.quote, o.2.2] 90 (0, 0)) ∧ Ints w base o.2.2 o.1.l
  nod : (os.map (·.2.1)).Nodup
  inn : ∀ p ∈ rs, Ints w base p.2 p.1.l
  apart : Apart (v1 :: (os.map (·.2.2) ++ rs.map (·.2)))
theorem IsRd.chg {w w' : World} {base g : Nat} {rs : List (Nd × Value)} {tops : List Int} {v1 : Value} {os : List (Pt × Nat × Value)} (h : IsRd w base g rs tops v1 os) (k : Chg [] w w') : IsRd w' base g rs tops v1 os := by
  obtain ⟨⟨v0, v2, h1, h2, h3⟩, hg, ht, ho, hn, hi, ha⟩ := h
  exact ⟨⟨v0, v2, k.at h1 (by simp), own_keep h2 k (by simp), own_keep h3 k (by simp)⟩, hg, own_keep ht k (by simp), fun o hh => ⟨(ho o hh).1, k.at (ho o hh).2.1 (by simp), own_keep (ho o hh).2.2 k (by simp)⟩, hn, fun p hp => own_keep (hi p hp) k (by simp), ha⟩
theorem apart_sub {a b : List Value} (h : Apart b) (hs : List.Sublist a b) : Apart a := List.Pairwise.sublist hs h
/-- a datum is put into the row -/
theorem IsRd.put {w w1 : World} {base g : Nat} {rs : List (Nd × Value)} {tops : List Int} {v1 : Value} {os : List (Pt × Nat × Value)} (h : IsRd w base g rs tops v1 os) {v0 v2 : Value} (hb : w.heap[g]? = some (.cells #[v0, v1, v2] 83 (0, 0))) (k : Chg (ob v0) w w1) {u : Value} (x : Nd) (Lx : Value) (hu : w1.ownsRow base 34 5 u (rs.length + 1) (rs.flatMap nodeC ++ nodeC (x, Lx)))
    (hx : Ints w1 base Lx x.l) (hax : ∀ v ∈ v1 :: (os.map (·.2.2) ++ rs.map (·.2)), ∀ k, v.ownBlock = some k → Lx.ownBlock ≠ some k) :
    IsRd (w1.setCell ⟨g, 0, none⟩ u) base g (rs ++ [(x, Lx)]) tops v1 os := by
  obtain ⟨⟨v0', v2', h1, h2, h3⟩, hg, ht, ho, hn, hi, ha⟩ := h
  rw [hb] at h1
  injection h1 with h1; injection h1 with h1
  have e0 : v0' = v0 := by have := congrArg (fun a => a[0]?) h1; simpa using this.symm
  have e2 : v2' = v2 := by have := congrArg (fun a => a[2]?) h1; simpa using this.symm
  subst e0 e2
  have kg : g ∉ ob v0' := fun hm => own_blk_ne h2 hb (by decide) (mem_ob.1 hm)
  have hb1 := k.at hb kg
  have ki : ∀ {v : Value} {l : List Int}, Ints w base v l → Ints (w1.setCell ⟨g, 0, none⟩ u) base v l := fun {v l} hh => by
    have s1 : Ints w1 base v l := own_keep hh k (fun b hb' hm => own_ne hh h2 (by decide) b hb' (mem_ob.1 hm))
    exact own_keep s1 (F := [g]) ((Chg.refl [g] w1).set _ _ (.inl (by simp))) (fun b hb' hm => by
      have : b = g := by simpa using hm
      subst this
      exact own_blk_ne s1 hb1 (by decide) hb')
  have kx : Ints (w1.setCell ⟨g, 0, none⟩ u) base Lx x.l := own_keep hx (F := [g]) ((Chg.refl [g] w1).set _ _ (.inl (by simp))) (fun b hb' hm => by
    have : b = g := by simpa using hm
    subst this
    exact own_blk_ne hx hb1 (by decide) hb')
  refine ⟨⟨u, v2', ?_, ?_, ?_⟩, hg, ki ht, fun o hh => ⟨(ho o hh).1, ?_, ki (ho o hh).2.2⟩, hn, fun p hp => ?_, ?_⟩
  · have := blk_set hb1 0 u
    simpa using this
  · unfold Nodes
    rw [List.length_append, List.flatMap_append, List.flatMap_singleton]
    exact own_keep hu (F := [g]) ((Chg.refl [g] w1).set _ _ (.inl (by simp))) (fun b hb' hm => by
      have : b = g := by simpa using hm
      subst this
      exact own_blk_ne hu hb1 (by decide) hb')
  · have s1 := own_keep h3 k (fun b hb' hm => own_ne h3 h2 (by decide) b hb' (mem_ob.1 hm))
    exact own_keep s1 (F := [g]) ((Chg.refl [g] w1).set _ _ (.inl (by simp))) (fun b hb' hm => by
      have : b = g := by simpa using hm
      subst this
      exact own_blk_ne s1 hb1 (by decide) hb')
  · have s1 := k.at (ho o hh).2.1 (fun hm => own_blk_ne h2 (ho o hh).2.1 (by decide) (mem_ob.1 hm))
    exact blk_far s1 (blk_ne s1 hb1 (by decide)) u
  · rcases List.mem_append.1 hp with hp | hp
    · exact ki (hi p hp)
    · have : p = (x, Lx) := by simpa using hp
      subst this
      exact kx
  · rw [List.map_append, ← List.append_assoc, ← List.cons_append]
    exact List.pairwise_append.2 ⟨ha, by simp, fun a ha' b hb' => by
      have : b = Lx := by simpa using hb'
      subst this
      exact hax a ha'⟩
/-- what is known of the reader's block -/
theorem IsRd.cells {w : World} {base g : Nat} {rs : List (Nd × Value)} {tops : List Int} {v1 : Value} {os : List (Pt × Nat × Value)} (h : IsRd w base g rs tops v1 os) : ∃ v0 A B, w.heap[g]? = some (.cells #[v0, v1, .slice A os.length B] 83 (0, 0)) ∧ Nodes w base v0 rs ∧ w.ownsRow base 87 1 (.slice A os.length B) os.length (os.reverse.map fun o => .pointer (some ⟨o.2.1, 0, none⟩)) := by
  obtain ⟨v0, v2, h1, h2, h3⟩ := h.ex
  obtain ⟨A, B, rfl⟩ := own_slice h3
  exact ⟨v0, A, B, h1, h2, h3⟩
theorem two_cells {w : World} {g t : Nat} {a b c a' b' c' : Value} (h : w.heap[g]? = some (.cells #[a, b, c] t (0, 0))) (h' : w.heap[g]? = some (.cells #[a', b', c'] t (0, 0))) : a = a' ∧ b = b' ∧ c = c' := by
  rw [h] at h'
  injection h' with h'; injection h' with h'
  refine ⟨?_, ?_, ?_⟩
  · have := congrArg (fun a => a[0]?) h'; simpa using this
  · have := congrArg (fun a => a[1]?) h'; simpa using this
  · have := congrArg (fun a => a[2]?) h'; simpa using this
/-- an owned row lies not in a block of another type that is written -/
theorem own_set {w : World} {b1 e1 s1 n1 g t : Nat} {v1 : Value} {x1 : List Value} {cs : Array Value} (h : w.ownsRow b1 e1 s1 v1 n1 x1) (hb : w.heap[g]? = some (.cells cs t (0, 0))) (hne : e1 ≠ t) (i : Nat) (u : Value) : (w.setCell ⟨g, i, none⟩ u).ownsRow b1 e1 s1 v1 n1 x1 :=
  own_keep h (F := [g]) ((Chg.refl [g] w).set _ _ (.inl (by simp))) (fun b hb' hm => by
    have : b = g := by simpa using hm
    subst this
    exact own_blk_ne h hb hne hb')
/-- where a row of numbers has grown -/
theorem ints_grown {w w1 : World} {base : Nat} {v : Value} {l : List Int} (hv : Ints w base v l) (k : Chg (ob v) w w1) :
    (∀ {b e s n : Nat} {u : Value} {xs : List Value}, w.ownsRow b e s u n xs → e ≠ 3 → w1.ownsRow b e s u n xs) ∧ (∀ {g t : Nat} {cs : Array Value}, w.heap[g]? = some (.cells cs t (0, 0)) → t ≠ 3 → w1.heap[g]? = some (.cells cs t (0, 0))) :=
  ⟨fun hu hne => own_keep hu k (fun b hb hm => own_ne hu hv hne b hb (mem_ob.1 hm)), fun hb hne => k.at hb (fun hm => own_blk_ne hv hb (Ne.symm hne) (mem_ob.1 hm))⟩
theorem IsRd.tops_ {w w1 : World} {base g : Nat} {rs : List (Nd × Value)} {tops : List Int} {v1 : Value} {os : List (Pt × Nat × Value)} (h : IsRd w base g rs tops v1 os) (k : Chg (ob v1) w w1) {u : Value} (n : Int) (hu : Ints w1 base u (tops ++ [n])) (hf : ∀ k, u.ownBlock = some k → v1.ownBlock = some k ∨ w.heap.size ≤ k) :
    IsRd (w1.setCell ⟨g, 1, none⟩ u) base g rs (tops ++ [n]) u os := by
  obtain ⟨kt, kb⟩ := ints_grown h.top k
  obtain ⟨⟨v0, v2, h1, h2, h3⟩, hg, ht, ho, hn, hi, ha⟩ := h
  have hb1 := kb h1 (by decide)
  have ha1 := List.pairwise_cons.1 ha
  have ki : ∀ {v : Value} {l : List Int}, Ints w base v l → v ∈ os.map (·.2.2) ++ rs.map (·.2) → Ints (w1.setCell ⟨g, 1, none⟩ u) base v l := fun {v l} hh hm => by
    have s1 : Ints w1 base v l := own_keep hh k (fun b hb' hm' => ha1.1 v hm b (mem_ob.1 hm') hb')
    exact own_set s1 hb1 (by decide) 1 u
  refine ⟨⟨v0, v2, ?_, own_set (kt h2 (by decide)) hb1 (by decide) 1 u, own_set (kt h3 (by decide)) hb1 (by decide) 1 u⟩, hg, own_set hu hb1 (by decide) 1 u, fun o hh => ⟨(ho o hh).1, ?_, ki (ho o hh).2.2 (List.mem_append_left _ (List.mem_map_of_mem hh))⟩, hn, fun p hp => ki (hi p hp) (List.mem_append_right _ (List.mem_map_of_mem hp)), List.pairwise_cons.2 ⟨?_, ha1.2⟩⟩
  · have := blk_set hb1 1 u
    simpa using this
  · have s1 := kb (ho o hh).2.1 (by decide)
    exact blk_far s1 (blk_ne s1 hb1 (by decide)) u
  · intro v hv kk hk hk'
    rcases hf kk hk with h | h
    · exact ha1.1 v hv kk h hk'
    · have hlt : kk < w.heap.size := by
        rcases List.mem_append.1 hv with hv | hv
        · obtain ⟨o, hh, rfl⟩ := List.mem_map.1 hv
          exact ((ho o hh).2.2.lt kk hk').2
        · obtain ⟨p, hp, rfl⟩ := List.mem_map.1 hv
          exact ((hi p hp).lt kk hk').2
      omega
/-- what was opened last has one datum more -/
theorem IsRd.more {w w1 : World} {base g : Nat} {rs : List (Nd × Value)} {tops : List Int} {v1 : Value} {o : Pt} {b : Nat} {v : Value} {os : List (Pt × Nat × Value)} (h : IsRd w base g rs tops v1 ((o, b, v) :: os)) (k : Chg (ob v) w w1) {u : Value} (n : Int) (hu : Ints w1 base u (o.l ++ [n])) (hf : ∀ k, u.ownBlock = some k → v.ownBlock = some k ∨ w.heap.size ≤ k) :
    IsRd (w1.setCell ⟨b, 2, none⟩ u) base g rs tops v1 ((⟨o.at_, o.quote, o.l ++ [n]⟩, b, u) :: os) := by
  have hv := (h.ops _ (List.mem_cons_self ..)).2.2
  obtain ⟨kt, kb⟩ := ints_grown hv k
  obtain ⟨⟨v0, v2, h1, h2, h3⟩, hg, ht, ho, hn, hi, ha⟩ := h
  have hob := (ho _ (List.mem_cons_self ..)).2.1
  have hb1 := kb hob (by decide)
  have hbg := kb h1 (by decide)
  simp only [List.map_cons, List.cons_append] at ha
  have hap : ∀ x, x = v1 ∨ x ∈ os.map (·.2.2) ++ rs.map (·.2) → ∀ k, v.ownBlock = some k → x.ownBlock ≠ some k := by
    intro x hx kk hk hk'
    obtain ⟨a1, a2⟩ := List.pairwise_cons.1 ha
    rcases hx with rfl | hx
    · exact a1 v (List.mem_cons_self ..) kk hk' hk
    · exact (List.pairwise_cons.1 a2).1 x hx kk hk hk'
  have ki : ∀ {x : Value} {l : List Int}, Ints w base x l → (x = v1 ∨ x ∈ os.map (·.2.2) ++ rs.map (·.2)) → Ints (w1.setCell ⟨b, 2, none⟩ u) base x l := fun {x l} hh hm => by
    have s1 : Ints w1 base x l := own_keep hh k (fun b' hb' hm' => hap x hm b' (mem_ob.1 hm') hb')
    exact own_set s1 hb1 (by decide) 2 u
  refine ⟨⟨v0, v2, ?_, own_set (kt h2 (by decide)) hb1 (by decide) 2 u, by simpa using own_set (kt h3 (by decide)) hb1 (by decide) 2 u⟩, hg, ki ht (.inl rfl), fun o' hh => ?_, hn, fun p hp => ki (hi p hp) (.inr (List.mem_append_right _ (List.mem_map_of_mem hp))), ?_⟩
  · exact blk_far hbg (blk_ne hbg hb1 (by decide)) u
  · rcases List.mem_cons.1 hh with rfl | hh
    · refine ⟨(ho _ (List.mem_cons_self ..)).1, ?_, own_set hu hb1 (by decide) 2 u⟩
      have := blk_set hb1 2 u
      simpa using this
    · have hmem := List.mem_cons_of_mem (o, b, v) hh
      refine ⟨(ho o' hmem).1, ?_, ki (ho o' hmem).2.2 (.inr (List.mem_append_left _ (List.mem_map_of_mem hh)))⟩
      have s1 := kb (ho o' hmem).2.1 (by decide)
      refine blk_far s1 (fun e => ?_) u
      have := (List.nodup_cons.1 hn).1
      exact this (List.mem_map.2 ⟨o', hh, e⟩)
  · have fresh : ∀ x, x = v1 ∨ x ∈ os.map (·.2.2) ++ rs.map (·.2) → ∀ k, u.ownBlock = some k → x.ownBlock ≠ some k := by
      intro x hx kk hk hk'
      rcases hf kk hk with h | h
      · exact hap x hx kk h hk'
      · have hlt : kk < w.heap.size := by
          rcases hx with rfl | hx
          · exact (ht.lt kk hk').2
          · rcases List.mem_append.1 hx with hx | hx
            · obtain ⟨o', hh, rfl⟩ := List.mem_map.1 hx
              exact ((ho o' (List.mem_cons_of_mem _ hh)).2.2.lt kk hk').2
            · obtain ⟨p, hp, rfl⟩ := List.mem_map.1 hx
              exact ((hi p hp).lt kk hk').2
        omega
    obtain ⟨a1, a2⟩ := List.pairwise_cons.1 ha
    obtain ⟨a3, a4⟩ := List.pairwise_cons.1 a2
    simp only [List.map_cons, List.cons_append]
    refine List.pairwise_cons.2 ⟨fun x hx kk hk hk' => ?_, List.pairwise_cons.2 ⟨fun x hx kk hk => fresh x (.inr hx) kk hk, a4⟩⟩
    rcases List.mem_cons.1 hx with rfl | hx
    · exact fresh v1 (.inl rfl) kk hk' hk
    · exact a1 x (List.mem_cons_of_mem _ hx) kk hk hk'
/-- a shorter row -/
theorem own_less {w : World} {base e size n m c : Nat} {A : Option Addr} {xs : List Value} (h : w.ownsRow base e size (.slice A n c) n xs) (hm : m ≤ n) (hA : 0 < n) : w.ownsRow base e size (.slice A m c) m (xs.take (m * size)) := by
  obtain ⟨hl, h2⟩ := h
  have hmn : m * size ≤ n * size := Nat.mul_le_mul_right _ hm
  refine ⟨by rw [List.length_take]; omega, ?_⟩
  rcases h2 with ⟨h3, h4⟩ | ⟨g, cap, cur, h3, h4, h5, h6, h7, h8, h9⟩
  · omega
  · simp only [Value.slice.injEq] at h3
    obtain ⟨rfl, _, rfl⟩ := h3
    refine .inr ⟨g, c, cur, rfl, h4, h5, by omega, h7, h8, ?_⟩
    rw [← h9, List.take_take, Nat.min_eq_left hmn]
/-- what was opened last is taken away -/
theorem IsRd.pop {w : World} {base g : Nat} {rs : List (Nd × Value)} {tops : List Int} {v0 v1 : Value} {A : Option Addr} {c : Nat} {o : Pt} {b : Nat} {v : Value} {os : List (Pt × Nat × Value)} (h : IsRd w base g rs tops v1 ((o, b, v) :: os)) (hb : w.heap[g]? = some (.cells #[v0, v1, .slice A (os.length + 1) c] 83 (0, 0))) :
    IsRd (w.setCell ⟨g, 2, none⟩ (.slice A os.length c)) base g rs tops v1 os ∧ Ints (w.setCell ⟨g, 2, none⟩ (.slice A os.length c)) base v o.l ∧ (∀ x ∈ v1 :: (os.map (·.2.2) ++ rs.map (·.2)), ∀ k, x.ownBlock = some k → v.ownBlock ≠ some k) := by
  obtain ⟨⟨v0', v2', h1, h2, h3⟩, hg, ht, ho, hn, hi, ha⟩ := h
  obtain ⟨rfl, _, rfl⟩ := two_cells hb h1
  simp only [List.length_cons, List.reverse_cons, List.map_append] at h3
  have h4 := own_less h3 (m := os.length) (by omega) (by omega)
  rw [Nat.mul_one, show os.length = (os.reverse.map fun o : Pt × Nat × Value => (Value.pointer (some ⟨o.2.1, 0, none⟩))).length from by simp, List.take_left] at h4
  rw [show (os.reverse.map fun o : Pt × Nat × Value => (Value.pointer (some ⟨o.2.1, 0, none⟩))).length = os.length from by simp] at h4
  simp only [List.map_cons, List.cons_append] at ha
  obtain ⟨a1, a2⟩ := List.pairwise_cons.1 ha
  obtain ⟨a3, a4⟩ := List.pairwise_cons.1 a2
  refine ⟨⟨⟨v0, _, ?_, own_set h2 hb (by decide) 2 _, own_set h4 hb (by decide) 2 _⟩, hg, own_set ht hb (by decide) 2 _, fun o' hh => ?_, (List.nodup_cons.1 hn).2, fun p hp => own_set (hi p hp) hb (by decide) 2 _, List.pairwise_cons.2 ⟨fun x hx => a1 x (List.mem_cons_of_mem _ hx), a4⟩⟩, own_set (ho _ (List.mem_cons_self ..)).2.2 hb (by decide) 2 _, ?_⟩
  · have := blk_set hb 2 (.slice A os.length c)
    simpa using this
  · have hm := List.mem_cons_of_mem (o, b, v) hh
    have s1 := (ho o' hm).2.1
    exact ⟨(ho o' hm).1, blk_far s1 (blk_ne s1 hb (by decide)) _, own_set (ho o' hm).2.2 hb (by decide) 2 _⟩
  · intro x hx kk hk hk'
    rcases List.mem_cons.1 hx with rfl | hx
    · exact a1 v (List.mem_cons_self ..) kk hk hk'
    · exact a3 x hx kk hk' hk
/-- something is opened -/
theorem IsRd.push {w w1 : World} {base g : Nat} {rs : List (Nd × Value)} {tops : List Int} {v0 v1 v2 : Value} {os : List (Pt × Nat × Value)} (h : IsRd w base g rs tops v1 os) (hb : w.heap[g]? = some (.cells #[v0, v1, v2] 83 (0, 0))) (k : Chg (ob v2) w w1) {u : Value} (o : Pt) (b : Nat) (hl : o.l = []) (hbw : base ≤ b ∧ ∀ o' ∈ os, o'.2.1 ≠ b)
    (hob : w1.heap[b]? = some (.cells #[.int .i64 o.at_, .bool o.quote, .slice none 0 0] 90 (0, 0))) (hu : w1.ownsRow base 87 1 u (os.length + 1) ((os.reverse.map fun o => .pointer (some ⟨o.2.1, 0, none⟩)) ++ [.pointer (some ⟨b, 0, none⟩)])) :
    IsRd (w1.setCell ⟨g, 2, none⟩ u) base g rs tops v1 ((o, b, .slice none 0 0) :: os) := by
  obtain ⟨⟨v0', v2', h1, h2, h3⟩, hg, ht, ho, hn, hi, ha⟩ := h
  obtain ⟨rfl, _, rfl⟩ := two_cells hb h1
  have kt : ∀ {b e s n : Nat} {u : Value} {xs : List Value}, w.ownsRow b e s u n xs → e ≠ 87 → w1.ownsRow b e s u n xs := fun hu hne => own_keep hu k (fun b hb hm => own_ne hu h3 hne b hb (mem_ob.1 hm))
  have kb : ∀ {g t : Nat} {cs : Array Value}, w.heap[g]? = some (.cells cs t (0, 0)) → t ≠ 87 → w1.heap[g]? = some (.cells cs t (0, 0)) := fun hb hne => k.at hb (fun hm => own_blk_ne h3 hb (Ne.symm hne) (mem_ob.1 hm))
  have hb1 := kb hb (by decide)
  refine ⟨⟨v0, u, ?_, own_set (kt h2 (by decide)) hb1 (by decide) 2 u, ?_⟩, hg, own_set (kt ht (by decide)) hb1 (by decide) 2 u, fun o' hh => ?_, ?_, fun p hp => own_set (kt (hi p hp) (by decide)) hb1 (by decide) 2 u, ?_⟩
  · have := blk_set hb1 2 u
    simpa using this
  · rw [List.reverse_cons, List.map_append]
    exact own_set hu hb1 (by decide) 2 u
  · rcases List.mem_cons.1 hh with rfl | hh
    · refine ⟨hbw.1, blk_far hob (blk_ne hob hb1 (by decide)) u, ?_⟩
      show Ints _ base (.slice none 0 0) o.l
      rw [hl]
      exact ints_nil _ _
    · have s1 := kb (ho o' hh).2.1 (by decide)
      exact ⟨(ho o' hh).1, blk_far s1 (blk_ne s1 hb1 (by decide)) u, own_set (kt (ho o' hh).2.2 (by decide)) hb1 (by decide) 2 u⟩
  · refine List.nodup_cons.2 ⟨fun hm => ?_, hn⟩
    obtain ⟨o', hh, e⟩ := List.mem_map.1 hm
    exact hbw.2 o' hh e
  · simp only [List.map_cons, List.cons_append]
    obtain ⟨a1, a2⟩ := List.pairwise_cons.1 ha
    refine List.pairwise_cons.2 ⟨fun x hx kk hk hk' => ?_, List.pairwise_cons.2 ⟨fun x _ kk hk => by simp [Value.ownBlock] at hk, a2⟩⟩
    rcases List.mem_cons.1 hx with rfl | hx
    · simp [Value.ownBlock] at hk'
    · exact a1 x hx kk hk hk'
end Go.Proofs.YtomhkemdafiphaaGreatDoor.ReadM
/- Contracts of last; each states its conditions. -/
namespace Go.Proofs.YtomhkemdafiphaaGreatDoor.ReadM
open Go Go.RowKit Go.Proofs.YtomhkemdafiphaaGreatDoor.Heap Go.Proofs.YtomhkemdafiphaaGreatDoor.Own Go.Proofs.YtomhkemdafiphaaGreatDoor.ReadP
open Go.Proofs.YtomhkemdafiphaaGreatDoorW.PrintWords (Aside0 below_then below_alloc)
theorem last_none (g : Nat) (w : World) {v0 v1 : Value} {A : Option Addr} {c : Nat} (hb : w.heap[g]? = some (.cells #[v0, v1, .slice A 0 c] 83 (0, 0))) :
    Calls Tryz.prog 35 #[.pointer (some ⟨g, 0, none⟩)] w fun e w' => e = .returned (.pointer none) ∧ w = w' := by
  have h2 := blk_cell hb 2
  simp at h2
  clear hb
  go_enter Tryz.func35, Tryz.ntmps35
  go_wp2
  go_ret
  exact ⟨rfl, rfl⟩
set_option maxHeartbeats 1000000 in
theorem last_some (g : Nat) (w : World) {v0 v1 x : Value} {ga m c : Nat} (hb : w.heap[g]? = some (.cells #[v0, v1, .slice (some ⟨ga, 0, none⟩) (m + 1) c] 83 (0, 0))) (hx : w.cell? ⟨ga, m, none⟩ = some x) (hm : m ≤ 1000) :
    Calls Tryz.prog 35 #[.pointer (some ⟨g, 0, none⟩)] w fun e w' => e = .returned x ∧ ∃ n, w' = w.drewN n := by
  have h2 := blk_cell hb 2
  simp at h2
  have e1 : (((m + 1 : Nat) : Int) == 0) = false := by simp; omega
  have e2 : ((m : Int) + 1 == 0) = false := by simp; omega
  have b0 : (0 : Int) ≤ (m : Int) := by omega
  have b1 : (m : Int) < 1001 := by omega
  have b2 : (m : Int) < (m : Int) + 1 := by omega
  have w1 : IntKind.i64.wrap ((m : Int) + 1 - 1) = (m : Int) := by rw [IntWalk.i64_in _ (by omega)]; omega
  clear hb hm
  go_enter Tryz.func35, Tryz.ntmps35
  go_wp2
  go_quiet (fail)
  go_wp2
  go_ret
  exact ⟨rfl, _, rfl⟩
theorem last_rd0 {w : World} {base g : Nat} {rs : List (Nd × Value)} {tops : List Int} {v1 : Value} (h : IsRd w base g rs tops v1 []) :
    Calls Tryz.prog 35 #[.pointer (some ⟨g, 0, none⟩)] w fun e w' => e = .returned (.pointer none) ∧ w = w' := by
  obtain ⟨v0, A, c, hb, _, _⟩ := h.cells
  exact last_none g w hb
theorem last_rd1 {w : World} {base g : Nat} {rs : List (Nd × Value)} {tops : List Int} {v1 : Value} {o : Pt × Nat × Value} {os : List (Pt × Nat × Value)} (h : IsRd w base g rs tops v1 (o :: os)) (hn : os.length ≤ 1000) :
    Calls Tryz.prog 35 #[.pointer (some ⟨g, 0, none⟩)] w fun e w' => e = .returned (.pointer (some ⟨o.2.1, 0, none⟩)) ∧ ∃ n, w' = w.drewN n := by
  obtain ⟨v0, A, c, hb, _, ho⟩ := h.cells
  rw [List.length_cons] at hb ho
  rcases ho.2 with ⟨h1, _⟩ | ⟨ga, cap, cur, h1, _⟩
  · simp at h1
  · simp only [Value.slice.injEq] at h1
    obtain ⟨rfl, _, _⟩ := h1
    obtain ⟨b, p, h3, _, hc⟩ := (Src.own ho).pl (by omega) (by decide)
    injection h3 with h3
    injection h3 with h3 h4
    subst h3; subst h4
    refine last_some (m := os.length) g w hb ?_ hn
    have := hc os.length (.pointer (some ⟨o.2.1, 0, none⟩)) (by
      rw [List.reverse_cons, List.map_append, List.getElem?_append_right (by simp)]
      simp)
    rwa [Nat.zero_add] at this
end Go.Proofs.YtomhkemdafiphaaGreatDoor.ReadM
/- The contract of put, with that of close at fewer; each states its conditions. -/
namespace Go.Proofs.YtomhkemdafiphaaGreatDoor.ReadM
open Go Go.RowKit Go.Proofs.YtomhkemdafiphaaGreatDoor.Heap Go.Proofs.YtomhkemdafiphaaGreatDoor.Own Go.Proofs.YtomhkemdafiphaaGreatDoor.ReadP
open Go.Proofs.YtomhkemdafiphaaGreatDoorW.PrintWords (Aside0 below_then below_alloc)
theorem infoNode : (Tryz.prog.info? 34).map (fun i => (i.zero, i.size, i.bytes)) = some (some (.agg #[.int .u8 0, .int .i64 0, .int .i64 0, .string ⟨#[]⟩, .slice none 0 0]), 5, 64) := by kernel_rfl
theorem infoInt : (Tryz.prog.info? 3).map (fun i => (i.zero, i.size, i.bytes)) = some (some (.int .i64 0), 1, 8) := by kernel_rfl
theorem infoPtr : (Tryz.prog.info? 87).map (fun i => (i.zero, i.size, i.bytes)) = some (some (.pointer none), 1, 8) := by kernel_rfl
/-- what a call of put or close leaves -/
def PutPost (w : World) (base g : Nat) (st : List Nd × List Int × List Pt) (e : Ending) (w' : World) : Prop :=
  e = .returned (.tuple #[]) ∧ (∃ rs v1 os, IsRd w' base g rs st.2.1 v1 os ∧ rs.map (·.1) = st.1 ∧ os.map (·.1) = st.2.2) ∧ Below base w w' ∧ w.heap.size ≤ w'.heap.size
theorem node_one (p : Nd × Value) {w : World} {base : Nat} (h : Ints w base p.2 p.1.l) : ∀ u ∈ nodeC p, u.oneCell' = true := by
  intro u hu
  obtain ⟨B, c, hB⟩ := own_slice h
  simp [nodeC] at hu
  rcases hu with rfl | rfl | rfl | rfl | rfl
  · rfl
  · rfl
  · rfl
  · rfl
  · rw [hB]; rfl
theorem below_chg {F : List Nat} {w w' : World} {base : Nat} (k : Chg F w w') (hF : ∀ b ∈ F, base ≤ b) (hb : base ≤ w.heap.size) : Below base w w' :=
  ⟨k.os, k.tape, k.output, k.size, fun b hlt => k.block b (by omega) (fun hm => by have := hF b hm; omega)⟩
theorem ints_snoc {w : World} {base c : Nat} {B : Option Addr} {l : List Int} {n : Int} (h : w.ownsRow base 3 1 (.slice B (l.length + 1) c) (l.length + 1) (nums .i64 l ++ nums .i64 [n])) : Ints w base (.slice B (l.length + 1) c) (l ++ [n]) := by
  unfold Ints
  rw [List.length_append, show nums .i64 (l ++ [n]) = nums .i64 l ++ nums .i64 [n] from by simp [nums]]
  exact h
theorem fresh_of {u v : Value} {N M : Nat} (h : u.ownBlock = v.ownBlock ∨ u.ownBlock = some N) (hM : M ≤ N) : ∀ k, u.ownBlock = some k → v.ownBlock = some k ∨ M ≤ k := by
  intro k hk
  rcases h with h | h
  · exact .inl (h ▸ hk)
  · rw [h] at hk; injection hk with hk; exact .inr (by omega)
set_option maxHeartbeats 4000000 in
set_option maxRecDepth 100000 in
theorem put_calls (base g : Nat) (rs : List (Nd × Value)) (tops : List Int) (v1 : Value) (os : List (Pt × Nat × Value)) (x : Nd) (Lx : Value) (w : World) (h : IsRd w base g rs tops v1 os) (hx : Ints w base Lx x.l) (hax : ∀ v ∈ v1 :: (os.map (·.2.2) ++ rs.map (·.2)), ∀ k, v.ownBlock = some k → Lx.ownBlock ≠ some k)
    (hb1 : rs.length + os.length ≤ 20000) (hb2 : tops.length ≤ 20000) (hb3 : ∀ o ∈ os, o.1.l.length ≤ 20000) (hos : os.length ≤ 1000)
    (hC : ∀ (o : Pt) (b : Nat) (v : Value) (os' : List (Pt × Nat × Value)) (W : World) (v1' : Value) (rs' : List (Nd × Value)), os'.length < os.length → IsRd W base g rs' tops v1' ((o, b, v) :: os') → rs'.length + os'.length ≤ 20000 → o.l.length ≤ 20001 → (∀ o ∈ os', o.1.l.length ≤ 20000) → os'.length ≤ 1000 →
      Calls Tryz.prog 51 #[.pointer (some ⟨g, 0, none⟩)] W (PutPost W base g (putS (rs'.map (·.1)) tops (os'.map (·.1)) ⟨4, o.at_, 0, [], o.l⟩))) :
    Calls Tryz.prog 50 #[.pointer (some ⟨g, 0, none⟩), .agg (nodeC (x, Lx)).toArray] w (PutPost w base g (putS (rs.map (·.1)) tops (os.map (·.1)) x)) := by
  have hone := node_one (x, Lx) hx
  obtain ⟨v0, A, c, hbk, hnd, hop⟩ := h.cells
  obtain ⟨A0, c0, rfl⟩ := own_slice hnd
  have H := Lib.hid h
  have HX := Lib.hid hx
  have HAX := Lib.hid hax
  have HC := Lib.hid hC
  have HONE := Lib.hid hone
  have hglt := blk_lt hbk
  have hnl : rs.length ≤ 20000 := by omega
  have bnl : (rs.length : Int) ≤ 20000 := by omega
  have B0 := fun W (k : Chg [] w W) => blk_cell (k.at hbk (by simp)) 0
  have F0 := fun W (k : Chg [] w W) => blk_frozen (k.at hbk (by simp)) 0
  simp at B0
  have HB0 := Lib.hid B0
  have HF0 := Lib.hid F0
  have z0 := B0 _ (Chg.refl _ _)
  have z1 := fun o => B0 _ ((Chg.refl [] w).alloc o)
  have HND := Lib.hid hnd
  have HBK := Lib.hid hbk
  have HOP := Lib.hid hop
  have hb3' := Lib.hid hb3
  clear h hx hax hC hone B0 F0 hnd hbk hop hb3
  unfold nodeC
  go_enter Tryz.func50, Tryz.ntmps50
  go_upto_region 2 with fail
  obtain ⟨W1, hW1⟩ : ∃ W1, W1 = w.alloc (.cells #[.int .u8 x.kind, .int .i64 x.pos, .int .i64 x.n, .string ⟨x.s.toArray⟩, Lx] 34) := ⟨_, rfl⟩
  have k1 : Chg [] w W1 := by rw [hW1]; exact (Chg.refl [] w).alloc _
  have hbx : W1.heap[w.heap.size]? = some (.cells #[.int .u8 x.kind, .int .i64 x.pos, .int .i64 x.n, .string ⟨x.s.toArray⟩, Lx] 34 (0, 0)) := by rw [hW1]; exact blk_new rfl
  have hsz1 : W1.heap.size = w.heap.size + 1 := by rw [hW1]; show (w.heap.push _).size = _; simp
  rw [← hW1]
  have HSZ := Lib.hid hsz1
  have K1 := Lib.hid k1
  have HBX := Lib.hid hbx
  clear hW1 z0 z1 k1 hbx hsz1
  go_cut [] (fun wx => Hid (IsRd wx base g (rs ++ [(x, Lx)]) tops v1 os) ∧ Hid (Below base w wx ∧ w.heap.size ≤ wx.heap.size))
  case first =>
    have y0 := HB0.out _ K1.out
    have y1 := fun o => HB0.out _ (K1.out.alloc o)
    have y2 := fun o => HB0.out _ ((K1.out.drew).alloc o)
    have x0 := blk_cell HBX.out 0
    have x1 := blk_cell HBX.out 1
    have x2 := blk_cell HBX.out 2
    have x3 := blk_cell HBX.out 3
    have x4 := blk_cell HBX.out 4
    simp at x0 x1 x2 x3 x4
    have hgl : base ≤ w.heap.size := by have := H.out.hg; omega
    have HG : g ∉ ob (.slice A0 rs.length c0) := fun hm => own_blk_ne HND.out HBK.out (by decide) (mem_ob.1 hm)
    go_region_law (refine app_step (W := W1.drew.alloc (.cells #[.int .u8 x.kind, .int .i64 x.pos, .int .i64 x.n, .string ⟨x.s.toArray⟩, Lx] 34)) (by rfl) (.tmp 15) (.tmp 17) 22 (by rfl) base 34 _ 5 64 Tryz.underlying22 infoNode rfl (by decide) (by decide) (.slice A0 rs.length c0) rs.length (rs.flatMap nodeC) (by rfl) (own_keep HND.out ((K1.out.drew).alloc _) (by simp)) _ 1 (nodeC (x, Lx)) (by rfl) (src_new _ _ _ _ _ _ (by rfl) rfl) HONE.out (Nat.le_trans hgl ((K1.out.drew).alloc _).size) (by omega) ?_; intro B4 c4 w4 ho4 hc4 hb4; have q0 : w4.cell? ⟨g, 0, none⟩ = some (.slice A0 rs.length c0) := hc4.cell (HB0.out _ ((K1.out.drew).alloc _)) HG; have q1 : w4.frozen? ⟨g, 0, none⟩ = false := hc4.frozen (HB0.out _ ((K1.out.drew).alloc _)) (HF0.out _ ((K1.out.drew).alloc _)) HG)
    all_goals
      have K4 := Lib.hid hc4
      have HO4 := Lib.hid ho4
      clear hc4 ho4 hb4 q0 q1
      go_wp2
      go_meet
      have kW : Chg [] w (W1.drew.alloc (.cells #[.int .u8 x.kind, .int .i64 x.pos, .int .i64 x.n, .string ⟨x.s.toArray⟩, Lx] 34)) := (K1.out.drew).alloc _
      have hbW := kW.at HBK.out (by simp)
      have hB : ∀ b, b ∈ ob (.slice A0 rs.length c0) → base ≤ b := fun b hm => (HND.out.lt b (mem_ob.1 hm)).1
      refine ⟨Lib.hid ((H.out.chg kW).put hbW K4.out x Lx HO4.out (own_keep (own_keep HX.out kW (by simp)) K4.out (fun b hb hm => own_ne HX.out HND.out (by decide) b hb (mem_ob.1 hm))) HAX.out), Lib.hid ⟨?_, ?_⟩⟩
      · exact below_chg (F := g :: ob (.slice A0 rs.length c0)) ((((kW.mono (fun _ h => by cases h)).trans K4.out (fun b hb => .inl (List.mem_cons_of_mem _ hb)))).set _ _ (.inl (List.mem_cons_self ..))) (fun b hb => by
          rcases List.mem_cons.1 hb with rfl | hb
          · exact H.out.hg
          · exact hB b hb) hgl
      · have h1 := kW.size
        have h2 := K4.out.size
        have h3 : (w4.setCell ⟨g, 0, none⟩ (.slice B4 (rs.length + 1) c4)).heap.size = w4.heap.size := by simp
        omega
  case rest =>
    obtain ⟨H2, HB2⟩ := hcut
    clear HB0 HF0 K1 HBX HSZ HX HAX HND HBK HOP H HONE
    have hbase : base ≤ wc.heap.size := by have := H2.out.hg; obtain ⟨_, _, _, hh, _, _⟩ := H2.out.cells; have := blk_lt hh; omega
    obtain ⟨v0', A', c', hbk, hnd, hop⟩ := H2.out.cells
    have HBK := Lib.hid hbk
    clear hbk hnd hop hglt
    cases os with
    | nil =>
      go_wp2_with fail
      refine (last_rd0 H2.out).mono ?_
      rintro e w3 ⟨rfl, rfl⟩
      obtain ⟨A1, c1, hv1⟩ := own_slice H2.out.top
      subst hv1
      have t0 := blk_cell HBK.out 1
      simp at t0
      have t1 := fun o => (((Chg.refl [] wc).alloc o).cell t0 (by simp))
      have HG : g ∉ ob (.slice A1 tops.length c1) := fun hm => own_blk_ne H2.out.top HBK.out (by decide) (mem_ob.1 hm)
      have tf := blk_frozen HBK.out 1
      have HT := Lib.hid t0
      have HTF := Lib.hid tf
      go_wp2_with (at_builtin; refine app rfl (.tmp 29) (.tmp 31) 29 rfl base 3 _ 1 8 Tryz.underlying29 infoInt rfl (by decide) (by decide) (.slice A1 tops.length c1) tops.length (nums .i64 tops) rfl (own_keep H2.out.top ((Chg.refl [] wc).alloc _) (by simp)) _ 1 (nums .i64 [(rs.length : Int)]) rfl (src_new (nums .i64 [(rs.length : Int)]) _ _ _ _ _ rfl (by simp)) one_nums (Nat.le_trans hbase ((Chg.refl [] wc).alloc _).size) (by omega) ?_; intro B5 c5 w5 ho5 hc5 hb5; have q0 : w5.cell? ⟨g, 1, none⟩ = some (.slice A1 tops.length c1) := hc5.cell (((Chg.refl [] wc).alloc _).cell HT.out (by simp)) HG; have q1 : w5.frozen? ⟨g, 1, none⟩ = false := hc5.frozen (((Chg.refl [] wc).alloc _).cell HT.out (by simp)) (((Chg.refl [] wc).alloc _).frozen HT.out HTF.out (by simp)) HG; have K5 := Lib.hid hc5; have HO5 := Lib.hid ho5; have HB5 := Lib.hid hb5; clear hc5 ho5 hb5)
      go_end0
      have kW : Chg [] wc (wc.alloc (.cells (nums .i64 [(rs.length : Int)]).toArray 3)) := (Chg.refl [] wc).alloc _
      have hI := ints_snoc HO5.out
      have kk : Chg (g :: ob (.slice A1 tops.length c1)) wc (w5.setCell ⟨g, 1, none⟩ (.slice B5 (tops.length + 1) c5)) := ((kW.mono (fun _ h => by cases h)).trans K5.out (fun b hb => .inl (List.mem_cons_of_mem _ hb))).set _ _ (.inl (List.mem_cons_self ..))
      refine ⟨rfl, ⟨rs ++ [(x, Lx)], .slice B5 (tops.length + 1) c5, [], ?_, by simp [putS], by simp [putS]⟩, ?_, ?_⟩
      · have := (H2.out.chg kW).tops_ K5.out (rs.length : Int) hI (fresh_of HB5.out (Nat.le_refl _))
        simpa [putS] using this
      · refine HB2.out.1.trans (below_chg kk (fun b hb => ?_) hbase)
        rcases List.mem_cons.1 hb with rfl | hb
        · exact H2.out.hg
        · exact (H2.out.top.lt b (mem_ob.1 hb)).1
      · exact Nat.le_trans HB2.out.2 kk.size
    | cons o os =>
      obtain ⟨o, b, v⟩ := o
      have hll := hb3'.out (o, b, v) (List.mem_cons_self ..)
      simp only at hll
      simp only [List.length_cons] at hb1 hos
      go_wp2_with fail
      refine (last_rd1 H2.out (by omega)).mono ?_
      rintro e w3 ⟨rfl, n3, hw3⟩
      have H3 := Lib.hid (H2.out.chg (w' := w3) (by rw [hw3]; exact (Chg.refl [] wc).draw n3))
      have KC := Lib.hid (show Chg [] wc w3 by rw [hw3]; exact (Chg.refl [] wc).draw n3)
      clear hw3
      obtain ⟨g1, g2, g3⟩ := H3.out.ops (o, b, v) (List.mem_cons_self ..)
      simp only at g1 g2 g3
      obtain ⟨Av, cv, hv⟩ := own_slice g3
      subst hv
      have GB := Lib.hid g1
      have HOB := Lib.hid g2
      have HIV := Lib.hid g3
      have t0 := blk_cell g2 2
      have t1 := blk_cell g2 1
      simp at t0 t1
      have HG : b ∉ ob (.slice Av o.l.length cv) := fun hm => own_blk_ne g3 g2 (by decide) (mem_ob.1 hm)
      have tf := blk_frozen g2 2
      have HT := Lib.hid t0
      have HT1 := Lib.hid t1
      have HTF := Lib.hid tf
      have bll : (o.l.length : Int) ≤ 20000 := by omega
      have hbase3 : base ≤ w3.heap.size := Nat.le_trans hbase KC.out.size
      clear g1 g2 g3
      go_upto_region 7 with (at_builtin; refine app rfl (.tmp 39) (.tmp 41) 29 rfl base 3 _ 1 8 Tryz.underlying29 infoInt rfl (by decide) (by decide) (.slice Av o.l.length cv) o.l.length (nums .i64 o.l) rfl (own_keep HIV.out ((Chg.refl [] w3).alloc _) (by simp)) _ 1 (nums .i64 [(rs.length : Int)]) rfl (src_new (nums .i64 [(rs.length : Int)]) _ _ _ _ _ rfl (by simp)) one_nums (Nat.le_trans hbase3 ((Chg.refl [] w3).alloc _).size) (by omega) ?_; intro B5 c5 w5 ho5 hc5 hb5; have q0 : w5.cell? ⟨b, 2, none⟩ = some (.slice Av o.l.length cv) := hc5.cell (((Chg.refl [] w3).alloc _).cell HT.out (by simp)) HG; have q1 : w5.frozen? ⟨b, 2, none⟩ = false := hc5.frozen (((Chg.refl [] w3).alloc _).cell HT.out (by simp)) (((Chg.refl [] w3).alloc _).frozen HT.out HTF.out (by simp)) HG; have q2 : w5.cell? ⟨b, 1, none⟩ = some (.bool o.quote) := hc5.cell (((Chg.refl [] w3).alloc _).cell HT1.out (by simp)) HG; have K5 := Lib.hid hc5; have HO5 := Lib.hid ho5; have HB5 := Lib.hid hb5; clear hc5 ho5 hb5)
      have kW : Chg [] w3 (w3.alloc (.cells (nums .i64 [(rs.length : Int)]).toArray 3)) := (Chg.refl [] w3).alloc _
      have H6 := (H3.out.chg kW).more K5.out (rs.length : Int) (ints_snoc HO5.out) (fresh_of HB5.out (Nat.le_refl _))
      have hB6 : Below base w (w5.setCell ⟨b, 2, none⟩ (.slice B5 (o.l.length + 1) c5)) ∧ w.heap.size ≤ (w5.setCell ⟨b, 2, none⟩ (.slice B5 (o.l.length + 1) c5)).heap.size := by
        have kk : Chg (b :: ob (.slice Av o.l.length cv)) wc (w5.setCell ⟨b, 2, none⟩ (.slice B5 (o.l.length + 1) c5)) := (((KC.out.sub kW).mono (fun _ h => by cases h)).trans K5.out (fun b hb => .inl (List.mem_cons_of_mem _ hb))).set _ _ (.inl (List.mem_cons_self ..))
        refine ⟨HB2.out.1.trans (below_chg kk (fun b' hb' => ?_) hbase), Nat.le_trans HB2.out.2 kk.size⟩
        rcases List.mem_cons.1 hb' with rfl | hb'
        · exact GB.out
        · exact (HIV.out.lt b' (mem_ob.1 hb')).1
      have HH6 := Lib.hid H6
      have HHB := Lib.hid hB6
      have hput : putS (rs.map (·.1)) tops (((o, b, Value.slice Av o.l.length cv) :: os).map (·.1)) x = if o.quote && o.l.length == 1 then putS (rs.map (·.1) ++ [x]) tops (os.map (·.1)) ⟨4, o.at_, 0, [], o.l ++ [(rs.length : Int)]⟩ else (rs.map (·.1) ++ [x], tops, ⟨o.at_, o.quote, o.l ++ [(rs.length : Int)]⟩ :: os.map (·.1)) := by
        rw [List.map_cons, putS, List.length_map]
      have HPUT := Lib.hid hput
      clear H6 hB6 hput kW hll
      by_cases hq : o.quote = true
      · by_cases hl : o.l.length = 1
        · have f1 : ((o.l.length : Int) + 1 == 2) = true := by simp; omega
          have HL1 := Lib.hid hl
          have HQ1 := Lib.hid hq
          rw [hq] at q2
          clear hl hq
          go_wp2_with fail
          refine (HC.out ⟨o.at_, o.quote, o.l ++ [(rs.length : Int)]⟩ b _ os _ v1 (rs ++ [(x, Lx)]) (by simp only [List.length_cons]; omega) HH6.out (by simp; omega) (by simp; have := HL1.out; omega) (fun o' ho' => hb3'.out o' (List.mem_cons_of_mem _ ho')) (by omega)).mono ?_
          rintro e w7 ⟨rfl, ⟨rs', v1', os', h', e1, e2⟩, hb7, hs7⟩
          have e0 : (rs ++ [(x, Lx)]).map (·.1) = rs.map (·.1) ++ [x] := by simp
          rw [e0] at h' e1 e2
          have R1 := Lib.hid h'
          have R2 := Lib.hid e1
          have R3 := Lib.hid e2
          have R4 := Lib.hid hb7
          have R5 := Lib.hid hs7
          clear h' e0 e1 e2 hb7 hs7
          go_wp2
          go_end0
          rw [HPUT.out, if_pos (by rw [HQ1.out, HL1.out]; rfl)]
          refine ⟨rfl, ⟨rs', v1', os', R1.out, ?_, ?_⟩, HHB.out.1.trans R4.out, Nat.le_trans HHB.out.2 R5.out⟩
          · exact R2.out
          · exact R3.out
        · have f1 : ((o.l.length : Int) + 1 == 2) = false := by simp; omega
          have HL1 := Lib.hid hl
          have HQ1 := Lib.hid hq
          rw [hq] at q2
          clear hl hq
          go_wp2
          go_end0
          rw [HPUT.out, if_neg (by rw [HQ1.out]; simpa using HL1.out)]
          exact ⟨rfl, ⟨_, _, _, HH6.out, by simp, by simp⟩, HHB.out.1, HHB.out.2⟩
      · have hq2 : o.quote = false := by simpa using hq
        have HQ1 := Lib.hid hq2
        rw [hq2] at q2
        clear hq hq2
        go_wp2
        go_end0
        rw [HPUT.out, if_neg (by rw [HQ1.out]; simp)]
        exact ⟨rfl, ⟨_, _, _, HH6.out, by simp, by simp⟩, HHB.out.1, HHB.out.2⟩
end Go.Proofs.YtomhkemdafiphaaGreatDoor.ReadM
/- The contracts of close and put; each states its conditions. -/
namespace Go.Proofs.YtomhkemdafiphaaGreatDoor.ReadM
open Go Go.RowKit Go.Proofs.YtomhkemdafiphaaGreatDoor.Heap Go.Proofs.YtomhkemdafiphaaGreatDoor.Own Go.Proofs.YtomhkemdafiphaaGreatDoor.ReadP
open Go.Proofs.YtomhkemdafiphaaGreatDoorW.PrintWords (Aside0 below_then below_alloc)
set_option maxHeartbeats 4000000 in
set_option maxRecDepth 100000 in
theorem close_step (base g : Nat) (rs : List (Nd × Value)) (tops : List Int) (v1 : Value) (o : Pt) (b : Nat) (v : Value) (os : List (Pt × Nat × Value)) (w : World) (h : IsRd w base g rs tops v1 ((o, b, v) :: os)) (hos : os.length ≤ 1000)
    (hP : ∀ (W : World) (Lx : Value), IsRd W base g rs tops v1 os → Ints W base Lx o.l → (∀ v ∈ v1 :: (os.map (·.2.2) ++ rs.map (·.2)), ∀ k, v.ownBlock = some k → Lx.ownBlock ≠ some k) →
      Calls Tryz.prog 50 #[.pointer (some ⟨g, 0, none⟩), .agg (nodeC (⟨4, o.at_, 0, [], o.l⟩, Lx)).toArray] W (PutPost W base g (putS (rs.map (·.1)) tops (os.map (·.1)) ⟨4, o.at_, 0, [], o.l⟩))) :
    Calls Tryz.prog 51 #[.pointer (some ⟨g, 0, none⟩)] w (PutPost w base g (putS (rs.map (·.1)) tops (os.map (·.1)) ⟨4, o.at_, 0, [], o.l⟩)) := by
  obtain ⟨Av, cv, hv⟩ := own_slice (h.ops (o, b, v) (List.mem_cons_self ..)).2.2
  simp only at hv
  subst hv
  generalize hst : putS (rs.map (·.1)) tops (os.map (·.1)) ⟨4, o.at_, 0, [], o.l⟩ = st at *
  have H := Lib.hid h
  have HP := Lib.hid hP
  have hbase : base ≤ w.heap.size := by have := h.hg; obtain ⟨_, _, _, hh, _, _⟩ := h.cells; have := blk_lt hh; omega
  have LC := Lib.hid (last_rd1 h hos)
  clear hst h hP
  go_enter Tryz.func51, Tryz.ntmps51
  go_wp2_with fail
  refine LC.out.mono ?_
  rintro e w3 ⟨rfl, n3, hw3⟩
  have KC : Chg [] w w3 := by rw [hw3]; exact (Chg.refl [] w).draw n3
  have H3 := Lib.hid (H.out.chg KC)
  have K3 := Lib.hid KC
  clear hw3 KC LC
  obtain ⟨v0, A, c, hbk, _, hop⟩ := H3.out.cells
  rw [List.length_cons] at hbk hop
  obtain ⟨g1, g2, g3⟩ := H3.out.ops (o, b, .slice Av o.l.length cv) (List.mem_cons_self ..)
  simp only at g1 g2 g3
  have hcap : os.length + 1 ≤ c := by
    rcases hop.2 with ⟨_, h2⟩ | ⟨g', cap, cur, h1, _, _, h2, _⟩
    · omega
    · simp only [Value.slice.injEq] at h1
      obtain ⟨_, _, rfl⟩ := h1
      omega
  have HBK := Lib.hid hbk
  have GB := Lib.hid g1
  have HOB := Lib.hid g2
  have t0 := blk_cell hbk 2
  simp at t0
  have tf := blk_frozen hbk 2
  generalize hm : os.length = m at *
  have HM := Lib.hid hm
  have b0 : (0 : Int) ≤ (m : Int) := by omega
  have b1 : (m : Int) < 1001 := by omega
  have b2 : (m : Int) ≤ (c : Int) := by omega
  have b3 : (m : Int) ≤ (m : Int) + 1 := by omega
  have e1 : (m : Int) + 1 - 1 = (m : Int) := by omega
  have w1 : IntKind.i64.wrap ((m : Int) + 1 - 1) = (m : Int) := by rw [IntWalk.i64_in _ (by omega)]; omega
  clear hm hos hcap hop g1 g2 g3 hbk
  go_upto_region 1 with fail
  go_region
  go_wp2_with fail
  have hbk := HBK.out
  rw [← HM.out] at hbk
  obtain ⟨p1, p2, p3⟩ := H3.out.pop hbk
  rw [HM.out] at p1 p2
  have hob4 : (w3.setCell ⟨g, 2, none⟩ (.slice A m c)).heap[b]? = some (.cells #[.int .i64 o.at_, .bool o.quote, .slice Av o.l.length cv] 90 (0, 0)) := blk_far HOB.out (blk_ne HOB.out hbk (by decide)) _
  have D : Chg [] (w3.setCell ⟨g, 2, none⟩ (.slice A m c)) (w3.setCell ⟨g, 2, none⟩ (.slice A m c)).drew := (Chg.refl [] _).drew
  have I4 := p1.chg D
  have I5 := own_keep p2 D (by simp)
  have I6 := D.at hob4 (by simp)
  have kk : Chg [g] w (w3.setCell ⟨g, 2, none⟩ (.slice A m c)).drew := (((K3.out.mono (fun _ h => by cases h)).set ⟨g, 2, none⟩ (.slice A m c) (.inl (by simp))).drew)
  have hB4 : Below base w (w3.setCell ⟨g, 2, none⟩ (.slice A m c)).drew ∧ w.heap.size ≤ (w3.setCell ⟨g, 2, none⟩ (.slice A m c)).drew.heap.size := ⟨below_chg kk (fun b hb => by
    have : b = g := by simpa using hb
    subst this
    exact H.out.hg) hbase, kk.size⟩
  clear p1 p2 hob4 D kk t0 tf
  clear hbk H3 K3 HBK HOB H
  generalize (w3.setCell ⟨g, 2, none⟩ (.slice A m c)).drew = W4 at *
  have J4 := Lib.hid I4
  have J5 := Lib.hid I5
  have J6 := Lib.hid I6
  have J7 := Lib.hid p3
  have J8 := Lib.hid hB4
  have KEEP : Hid (∀ W, Chg [] W4 W → W.cell? ⟨b, 0, none⟩ = some (.int .i64 o.at_) ∧ W.cell? ⟨b, 2, none⟩ = some (.slice Av o.l.length cv)) := Lib.hid (fun W k => by
    have hb := k.at J6.out (by simp)
    exact ⟨blk_cell hb 0, blk_cell hb 2⟩)
  clear I4 I5 I6 p3 hB4
  obtain ⟨y0, y2⟩ := KEEP.out _ (Chg.refl _ _)
  go_still_tail 10, (by kernel_rfl)
  go_wp2_with fail
  refine (HP.out _ (.slice Av o.l.length cv) (J4.out.chg ((Chg.refl [] W4).drew)) (own_keep J5.out (F := []) ((Chg.refl [] W4).drew) (by simp)) J7.out).mono ?_
  rintro e w9 ⟨rfl, hst, hb9, hs9⟩
  have R1 := Lib.hid hst
  have R2 := Lib.hid hb9
  have R3 := Lib.hid hs9
  clear hst hb9 hs9
  go_wp2
  go_end0
  exact ⟨rfl, R1.out, J8.out.1.trans (show Below base W4 w9 from ⟨R2.out.os, R2.out.tape, R2.out.output, R2.out.size, R2.out.block⟩), Nat.le_trans J8.out.2 R3.out⟩
theorem close_calls (base g : Nat) (tops : List Int) (hb2 : tops.length ≤ 20000) : ∀ (n : Nat) (rs : List (Nd × Value)) (v1 : Value) (o : Pt) (b : Nat) (v : Value) (os : List (Pt × Nat × Value)) (w : World), os.length ≤ n → IsRd w base g rs tops v1 ((o, b, v) :: os) → rs.length + os.length ≤ 20000 → o.l.length ≤ 20001 → (∀ o ∈ os, o.1.l.length ≤ 20000) → os.length ≤ 1000 →
    Calls Tryz.prog 51 #[.pointer (some ⟨g, 0, none⟩)] w (PutPost w base g (putS (rs.map (·.1)) tops (os.map (·.1)) ⟨4, o.at_, 0, [], o.l⟩))
  | 0, rs, v1, o, b, v, os, w, hn, h, h1, _, h3, h4 => close_step base g rs tops v1 o b v os w h h4 (fun W Lx hI hx ha => put_calls base g rs tops v1 os ⟨4, o.at_, 0, [], o.l⟩ Lx W hI hx ha h1 hb2 h3 h4 (fun _ _ _ _ _ _ _ hlt => by omega))
  | n + 1, rs, v1, o, b, v, os, w, hn, h, h1, _, h3, h4 => close_step base g rs tops v1 o b v os w h h4 (fun W Lx hI hx ha => put_calls base g rs tops v1 os ⟨4, o.at_, 0, [], o.l⟩ Lx W hI hx ha h1 hb2 h3 h4 (fun o' b' v' os' W' v1' rs' hlt hI' k1 k2 k3 k4 => close_calls base g tops hb2 n rs' v1' o' b' v' os' W' (by omega) hI' k1 k2 k3 k4))
/-- put, at any reader -/
theorem put_all (base g : Nat) (rs : List (Nd × Value)) (tops : List Int) (v1 : Value) (os : List (Pt × Nat × Value)) (x : Nd) (Lx : Value) (w : World) (h : IsRd w base g rs tops v1 os) (hx : Ints w base Lx x.l) (hax : ∀ v ∈ v1 :: (os.map (·.2.2) ++ rs.map (·.2)), ∀ k, v.ownBlock = some k → Lx.ownBlock ≠ some k)
    (hb1 : rs.length + os.length ≤ 20000) (hb2 : tops.length ≤ 20000) (hb3 : ∀ o ∈ os, o.1.l.length ≤ 20000) (hos : os.length ≤ 1000) :
    Calls Tryz.prog 50 #[.pointer (some ⟨g, 0, none⟩), .agg (nodeC (x, Lx)).toArray] w (PutPost w base g (putS (rs.map (·.1)) tops (os.map (·.1)) x)) :=
  put_calls base g rs tops v1 os x Lx w h hx hax hb1 hb2 hb3 hos (fun o b v os' W v1' rs' _ hI k1 k2 k3 k4 => close_calls base g tops hb2 os'.length rs' v1' o b v os' W (Nat.le_refl _) hI k1 k2 k3 k4)
end Go.Proofs.YtomhkemdafiphaaGreatDoor.ReadM
/- The contract of token where it is a datum, closes, or is too deep; each states its conditions. -/
namespace Go.Proofs.YtomhkemdafiphaaGreatDoor.ReadM
open Go Go.RowKit Go.Proofs.YtomhkemdafiphaaGreatDoor.Heap Go.Proofs.YtomhkemdafiphaaGreatDoor.Own Go.Proofs.YtomhkemdafiphaaGreatDoor.ReadP Go.Proofs.YtomhkemdafiphaaGreatDoor.LexP
open Go.Proofs.YtomhkemdafiphaaGreatDoorW.PrintWords (Aside0 below_then below_alloc)
def lastP : List (Pt × Nat × Value) → Value
  | [] => .pointer none
  | o :: _ => .pointer (some ⟨o.2.1, 0, none⟩)
theorem last_any {w : World} {base g : Nat} {rs : List (Nd × Value)} {tops : List Int} {v1 : Value} {os : List (Pt × Nat × Value)} (h : IsRd w base g rs tops v1 os) (hn : os.length ≤ 1000) :
    Calls Tryz.prog 35 #[.pointer (some ⟨g, 0, none⟩)] w fun e w' => e = .returned (lastP os) ∧ Chg [] w w' := by
  cases os with
  | nil => exact (last_rd0 h).mono fun e w' h => ⟨h.1, h.2 ▸ Chg.refl _ _⟩
  | cons o os => exact (last_rd1 h (by simp at hn; omega)).mono fun e w' ⟨h1, n, h2⟩ => ⟨h1, by rw [h2]; exact (Chg.refl [] w).draw n⟩
def tokV (t : Tok) : Value := .agg #[.int .u8 t.kind, .int .i64 t.pos, .int .i64 t.n, .string ⟨t.s.toArray⟩]
/-- what a call of token leaves -/
def TokPost (w : World) (base g : Nat) (x : Except Int (List Nd × List Int × List Pt)) (e : Ending) (w' : World) : Prop := match x with
  | .error er => e = .returned (.int .i64 er) ∧ Chg [] w w'
  | .ok st => e = .returned (.int .i64 0) ∧ (∃ rs v1 os, IsRd w' base g rs st.2.1 v1 os ∧ rs.map (·.1) = st.1 ∧ os.map (·.1) = st.2.2) ∧ Below base w w'
theorem below_chg0 {w w' : World} {base : Nat} (k : Chg [] w w') (hb : base ≤ w.heap.size) : Below base w w' := below_chg k (fun _ h => by cases h) hb
theorem apart_nil (l : List Value) : ∀ v ∈ l, ∀ k, v.ownBlock = some k → (Value.slice none 0 0).ownBlock ≠ some k := fun _ _ _ _ h => by simp [Value.ownBlock] at h
theorem IsRd.base_le {w : World} {base g : Nat} {rs : List (Nd × Value)} {tops : List Int} {v1 : Value} {os : List (Pt × Nat × Value)} (h : IsRd w base g rs tops v1 os) : base ≤ w.heap.size ∧ g < w.heap.size := by
  have := h.hg; obtain ⟨_, _, _, hh, _, _⟩ := h.cells; have := blk_lt hh; omega
set_option maxHeartbeats 4000000 in
set_option maxRecDepth 100000 in
/-- a token that is a datum -/
theorem token_datum (base g : Nat) (rs : List (Nd × Value)) (tops : List Int) (v1 : Value) (os : List (Pt × Nat × Value)) (t : Tok) (w : World) (h : IsRd w base g rs tops v1 os) (hk : t.kind = 4 ∨ t.kind = 5 ∨ t.kind = 6)
    (hb1 : rs.length + os.length ≤ 20000) (hb2 : tops.length ≤ 20000) (hb3 : ∀ o ∈ os, o.1.l.length ≤ 20000) (hos : os.length ≤ 1000) :
    Calls Tryz.prog 34 #[.pointer (some ⟨g, 0, none⟩), tokV t] w (TokPost w base g (tokS (rs.map (·.1), tops, os.map (·.1)) t)) := by
  have PC := fun (x : Nd) (W : World) (hl : x.l = []) (k : Chg [] w W) => put_all base g rs tops v1 os x (.slice none 0 0) W (h.chg k) (by rw [hl]; exact ints_nil _ _) (apart_nil _) hb1 hb2 hb3 hos
  have LC := fun (W : World) (k : Chg [] w W) => last_any (h.chg k) hos
  have hbase := h.base_le.1
  have hP := Lib.hid PC
  have hL := Lib.hid LC
  clear PC LC h hb1 hb2 hb3 hos
  obtain ⟨kd, pos, n, s⟩ := t
  simp only at hk
  unfold tokV tokS
  rcases hk with hk | hk | hk
  · subst hk
    rw [if_pos rfl]
    go_enter Tryz.func34, Tryz.ntmps34
    go_wp2_with fail
    refine (hL.out _ ((Chg.refl [] w).alloc _)).mono ?_
    rintro e w1 ⟨rfl, k1⟩
    have hbx := k1.at (blk_new rfl) (by simp)
    have x1 := blk_cell hbx 1
    have x2 := blk_cell hbx 2
    have x0 := blk_cell hbx 0
    simp at x0 x1 x2
    have K1 := Lib.hid (((Chg.refl [] w).alloc (.cells #[.int .u8 4, .int .i64 pos, .int .i64 n, .string ⟨s.toArray⟩] 85)).sub k1)
    clear hbx k1
    go_wp2_with fail
    refine (hP.out ⟨1, pos, n, [], []⟩ w1 rfl K1.out).mono ?_
    rintro e w2 ⟨rfl, hst, hb, _⟩
    have R1 := Lib.hid hst
    have R2 := Lib.hid hb
    clear hst hb
    go_wp2_with fail
    go_ret
    exact ⟨rfl, R1.out, (below_chg0 K1.out hbase).trans R2.out⟩
  · subst hk
    rw [if_neg (by simp), if_pos rfl]
    go_enter Tryz.func34, Tryz.ntmps34
    go_wp2_with fail
    refine (hL.out _ ((Chg.refl [] w).alloc _)).mono ?_
    rintro e w1 ⟨rfl, k1⟩
    have hbx := k1.at (blk_new rfl) (by simp)
    have x1 := blk_cell hbx 1
    have x2 := blk_cell hbx 2
    have x0 := blk_cell hbx 0
    simp at x0 x1 x2
    have K1 := Lib.hid (((Chg.refl [] w).alloc (.cells #[.int .u8 5, .int .i64 pos, .int .i64 n, .string ⟨s.toArray⟩] 85)).sub k1)
    clear hbx k1
    go_wp2_with fail
    refine (hP.out ⟨2, pos, n, [], []⟩ w1 rfl K1.out).mono ?_
    rintro e w2 ⟨rfl, hst, hb, _⟩
    have R1 := Lib.hid hst
    have R2 := Lib.hid hb
    clear hst hb
    go_wp2_with fail
    go_ret
    exact ⟨rfl, R1.out, (below_chg0 K1.out hbase).trans R2.out⟩
  · subst hk
    rw [if_neg (by simp), if_neg (by simp), if_pos rfl]
    go_enter Tryz.func34, Tryz.ntmps34
    go_wp2_with fail
    refine (hL.out _ ((Chg.refl [] w).alloc _)).mono ?_
    rintro e w1 ⟨rfl, k1⟩
    have hbx := k1.at (blk_new rfl) (by simp)
    have x1 := blk_cell hbx 1
    have x2 := blk_cell hbx 3
    have x0 := blk_cell hbx 0
    simp at x0 x1 x2
    have K1 := Lib.hid (((Chg.refl [] w).alloc (.cells #[.int .u8 6, .int .i64 pos, .int .i64 n, .string ⟨s.toArray⟩] 85)).sub k1)
    clear hbx k1
    go_wp2_with fail
    refine (hP.out ⟨3, pos, 0, s, []⟩ w1 rfl K1.out).mono ?_
    rintro e w2 ⟨rfl, hst, hb, _⟩
    have R1 := Lib.hid hst
    have R2 := Lib.hid hb
    clear hst hb
    go_wp2_with fail
    go_ret
    exact ⟨rfl, R1.out, (below_chg0 K1.out hbase).trans R2.out⟩
set_option maxHeartbeats 4000000 in
set_option maxRecDepth 100000 in
/-- a token that closes -/
theorem token_close (base g : Nat) (rs : List (Nd × Value)) (tops : List Int) (v1 : Value) (os : List (Pt × Nat × Value)) (t : Tok) (w : World) (h : IsRd w base g rs tops v1 os) (hk : t.kind = 2)
    (hb1 : rs.length + os.length ≤ 20000) (hb2 : tops.length ≤ 20000) (hb3 : ∀ o ∈ os, o.1.l.length ≤ 20000) (hos : os.length ≤ 1000) :
    Calls Tryz.prog 34 #[.pointer (some ⟨g, 0, none⟩), tokV t] w (TokPost w base g (tokS (rs.map (·.1), tops, os.map (·.1)) t)) := by
  have hbase := h.base_le.1
  obtain ⟨kd, pos, n, s⟩ := t
  simp only at hk
  subst hk
  unfold tokV tokS
  rw [if_neg (by simp), if_neg (by simp), if_neg (by simp), if_pos rfl]
  cases os with
  | nil =>
    have hL := Lib.hid (fun (W : World) (k : Chg [] w W) => last_rd0 (h.chg k))
    clear h hb1 hb2 hb3 hos
    go_enter Tryz.func34, Tryz.ntmps34
    go_wp2_with fail
    refine (hL.out _ ((Chg.refl [] w).alloc _)).mono ?_
    rintro e w1 ⟨rfl, rfl⟩
    go_wp2
    go_ret
    exact ⟨rfl, (Chg.refl [] w).alloc _⟩
  | cons o os =>
    obtain ⟨o, b, v⟩ := o
    simp only [List.length_cons] at hb1 hos
    have hL := Lib.hid (fun (W : World) (k : Chg [] w W) => last_rd1 (h.chg k) (by omega))
    have hC := Lib.hid (fun (W : World) (k : Chg [] w W) => close_calls base g tops hb2 os.length rs v1 o b v os W (Nat.le_refl _) (h.chg k) (by omega) (by have := hb3 _ (List.mem_cons_self ..); simp only at this; omega) (fun o' ho' => hb3 o' (List.mem_cons_of_mem _ ho')) (by omega))
    have hob := (h.ops _ (List.mem_cons_self ..)).2.1
    simp only at hob
    have HOB := Lib.hid hob
    clear h hb1 hb2 hb3 hos hob
    simp only [List.map_cons]
    by_cases hq : o.quote = true
    · rw [if_pos hq]
      have HQ := Lib.hid hq
      clear hq
      go_enter Tryz.func34, Tryz.ntmps34
      go_wp2_with fail
      refine (hL.out _ ((Chg.refl [] w).alloc _)).mono ?_
      rintro e w1 ⟨rfl, m, hw1⟩
      have k1 : Chg [] (w.alloc (.cells #[.int .u8 2, .int .i64 pos, .int .i64 n, .string ⟨s.toArray⟩] 85)) w1 := by rw [hw1]; exact (Chg.refl [] _).draw m
      have x0 := blk_cell (k1.at (blk_new rfl) (by simp)) 0
      have K1 := Lib.hid (((Chg.refl [] w).alloc (.cells #[.int .u8 2, .int .i64 pos, .int .i64 n, .string ⟨s.toArray⟩] 85)).sub k1)
      have y1 := blk_cell (K1.out.at HOB.out (by simp)) 1
      simp at x0 y1
      rw [HQ.out] at y1
      clear k1 hw1
      go_wp2
      go_ret
      exact ⟨rfl, K1.out⟩
    · rw [if_neg hq]
      have hq2 : o.quote = false := by simpa using hq
      have HQ := Lib.hid hq2
      clear hq hq2
      go_enter Tryz.func34, Tryz.ntmps34
      go_wp2_with fail
      refine (hL.out _ ((Chg.refl [] w).alloc _)).mono ?_
      rintro e w1 ⟨rfl, m, hw1⟩
      have k1 : Chg [] (w.alloc (.cells #[.int .u8 2, .int .i64 pos, .int .i64 n, .string ⟨s.toArray⟩] 85)) w1 := by rw [hw1]; exact (Chg.refl [] _).draw m
      have x0 := blk_cell (k1.at (blk_new rfl) (by simp)) 0
      have K1 := Lib.hid (((Chg.refl [] w).alloc (.cells #[.int .u8 2, .int .i64 pos, .int .i64 n, .string ⟨s.toArray⟩] 85)).sub k1)
      have y1 := blk_cell (K1.out.at HOB.out (by simp)) 1
      simp at x0 y1
      rw [HQ.out] at y1
      clear k1 hw1
      go_wp2_with fail
      refine (hC.out w1 K1.out).mono ?_
      rintro e w2 ⟨rfl, hst, hb, _⟩
      have R1 := Lib.hid hst
      have R2 := Lib.hid hb
      clear hst hb
      go_wp2_with fail
      go_ret
      exact ⟨rfl, R1.out, (below_chg0 K1.out hbase).trans R2.out⟩
set_option maxHeartbeats 4000000 in
set_option maxRecDepth 100000 in
/-- a token that opens, where too much is open -/
theorem token_deep (base g : Nat) (rs : List (Nd × Value)) (tops : List Int) (v1 : Value) (os : List (Pt × Nat × Value)) (t : Tok) (w : World) (h : IsRd w base g rs tops v1 os) (hk : t.kind = 1 ∨ t.kind = 3) (hd : 50 ≤ os.length) (hos : os.length ≤ 1000) :
    Calls Tryz.prog 34 #[.pointer (some ⟨g, 0, none⟩), tokV t] w (TokPost w base g (tokS (rs.map (·.1), tops, os.map (·.1)) t)) := by
  have hbase := h.base_le.1
  obtain ⟨v0, A, c, hbk, _, _⟩ := h.cells
  have HBK := Lib.hid hbk
  have hL := Lib.hid (fun (W : World) (k : Chg [] w W) => last_any (h.chg k) hos)
  obtain ⟨kd, pos, n, s⟩ := t
  simp only at hk
  have hx : tokS (rs.map (·.1), tops, os.map (·.1)) ⟨kd, pos, n, s⟩ = .error 62 := by
    unfold tokS
    simp only [List.length_map]
    rcases hk with rfl | rfl
    · rw [if_neg (by simp), if_neg (by simp), if_neg (by simp), if_neg (by simp), if_pos hd]
    · rw [if_neg (by simp), if_neg (by simp), if_neg (by simp), if_neg (by simp), if_pos hd]
  rw [hx]
  unfold tokV
  have c1 : decide (50 ≤ (os.length : Int)) = true := decide_eq_true (by omega)
  have c1' : decide (50 ≤ os.length) = true := decide_eq_true hd
  clear h hbk hd hos hx
  rcases hk with rfl | rfl
  all_goals
    go_enter Tryz.func34, Tryz.ntmps34
    go_wp2_with fail
    refine (hL.out _ ((Chg.refl [] w).alloc _)).mono ?_
    rintro e w1 ⟨rfl, k1⟩
    have x0 := blk_cell (k1.at (blk_new rfl) (by simp)) 0
    have K1 := Lib.hid (((Chg.refl [] w).alloc (.cells #[_, .int .i64 pos, .int .i64 n, .string ⟨s.toArray⟩] 85)).sub k1)
    have y2 := blk_cell (K1.out.at HBK.out (by simp)) 2
    simp at x0 y2
    clear k1
    go_wp2
    go_ret
    exact ⟨rfl, K1.out⟩
end Go.Proofs.YtomhkemdafiphaaGreatDoor.ReadM
/- The contract of token where it opens; each states its conditions. -/
namespace Go.Proofs.YtomhkemdafiphaaGreatDoor.ReadM
open Go Go.RowKit Go.Proofs.YtomhkemdafiphaaGreatDoor.Heap Go.Proofs.YtomhkemdafiphaaGreatDoor.Own Go.Proofs.YtomhkemdafiphaaGreatDoor.ReadP Go.Proofs.YtomhkemdafiphaaGreatDoor.LexP
open Go.Proofs.YtomhkemdafiphaaGreatDoorW.PrintWords (Aside0 below_then below_alloc)
set_option maxHeartbeats 4000000 in
set_option maxRecDepth 100000 in
/-- a token that opens -/
theorem token_open (base g : Nat) (rs : List (Nd × Value)) (tops : List Int) (v1 : Value) (os : List (Pt × Nat × Value)) (q : Bool) (pos n : Int) (s : List UInt8) (w : World) (h : IsRd w base g rs tops v1 os) (hd : os.length < 50)
    (hb1 : rs.length + os.length ≤ 19999) (hb2 : tops.length ≤ 20000) (hb3 : ∀ o ∈ os, o.1.l.length ≤ 20000) :
    Calls Tryz.prog 34 #[.pointer (some ⟨g, 0, none⟩), tokV ⟨if q then 3 else 1, pos, n, s⟩] w (TokPost w base g (tokS (rs.map (·.1), tops, os.map (·.1)) ⟨if q then 3 else 1, pos, n, s⟩)) := by
  have hbase := h.base_le.1
  obtain ⟨v0, A, c, hbk, hnd, hop⟩ := h.cells
  have HBK := Lib.hid hbk
  have HOP := Lib.hid hop
  have H := Lib.hid h
  have hL := Lib.hid (fun (W : World) (k : Chg [] w W) => last_any (h.chg k) (by omega))
  have hlt := fun o (ho : o ∈ os) => blk_lt (h.ops o ho).2.1
  have HLT := Lib.hid hlt
  have hb3' := Lib.hid hb3
  have hx : tokS (rs.map (·.1), tops, os.map (·.1)) ⟨if q then 3 else 1, pos, n, s⟩ = .ok (if q then putS (rs.map (·.1)) tops (⟨pos, true, []⟩ :: os.map (·.1)) ⟨3, pos, 0, quoteL, []⟩ else (rs.map (·.1), tops, ⟨pos, false, []⟩ :: os.map (·.1))) := by
    unfold tokS
    simp only [List.length_map]
    cases q
    · rw [if_neg (by simp), if_neg (by simp), if_neg (by simp), if_neg (by simp), if_neg (by omega), if_neg (by simp)]; simp
    · rw [if_neg (by simp), if_neg (by simp), if_neg (by simp), if_neg (by simp), if_neg (by omega), if_pos (by simp)]; simp
  rw [hx]
  unfold tokV
  have c1 : decide (50 ≤ (os.length : Int)) = false := decide_eq_false (by omega)
  have c1' : decide (50 ≤ os.length) = false := decide_eq_false (by omega)
  have hG : g ∉ ob (.slice A os.length c) := fun hm => own_blk_ne hop hbk (by decide) (mem_ob.1 hm)
  have HG := Lib.hid hG
  have bol : (os.length : Int) < 50 := by omega
  clear h hbk hop hnd hx hlt hb3 hG
  have key : ∀ kd : Int, (kd = if q then 3 else 1) → (kd == 3) = q ∧ (kd == 4) = false ∧ (kd == 5) = false ∧ (kd == 6) = false ∧ (kd == 2) = false := by
    intro kd hkd; subst hkd; cases q <;> decide
  obtain ⟨kd, hkd⟩ : ∃ kd : Int, kd = if q then 3 else 1 := ⟨_, rfl⟩
  rw [← hkd]
  obtain ⟨k3, k4, k5, k6, k2⟩ := key kd hkd
  clear key hkd
  go_enter Tryz.func34, Tryz.ntmps34
  go_wp2_with fail
  refine (hL.out _ ((Chg.refl [] w).alloc _)).mono ?_
  rintro e w1 ⟨rfl, k1⟩
  have hbx := k1.at (blk_new rfl) (by simp)
  have HBX := Lib.hid hbx
  have K1 := Lib.hid (((Chg.refl [] w).alloc (.cells #[.int .u8 kd, .int .i64 pos, .int .i64 n, .string ⟨s.toArray⟩] 85)).sub k1)
  have KEEP : Hid (∀ W, Chg [] w1 W → W.cell? ⟨w.heap.size, 0, none⟩ = some (.int .u8 kd) ∧ W.cell? ⟨w.heap.size, 1, none⟩ = some (.int .i64 pos) ∧ W.cell? ⟨g, 2, none⟩ = some (.slice A os.length c) ∧ W.frozen? ⟨g, 2, none⟩ = false) := Lib.hid (fun W k => by
    have h1 := k.at HBX.out (by simp)
    have h2 := (K1.out.same k).at HBK.out (by simp)
    exact ⟨blk_cell h1 0, blk_cell h1 1, blk_cell h2 2, blk_frozen h2 2⟩)
  clear hbx k1
  obtain ⟨x0, x1, y2, yf⟩ := KEEP.out _ (Chg.refl [] _)
  go_upto_region 6 with fail
  have z1 := fun o => (KEEP.out _ ((Chg.refl [] w1).alloc o)).2.2.1
  have z2 := fun o o' => (KEEP.out _ (((Chg.refl [] w1).alloc o).alloc o')).2.2.1
  have z1d := fun o => (KEEP.out _ ((Chg.refl [] w1).drew.alloc o)).2.2.1
  have z2d := fun o o' => (KEEP.out _ (((Chg.refl [] w1).drew.alloc o).alloc o')).2.2.1
  go_cut [] (fun wx => Hid (∃ b, IsRd wx base g rs tops v1 ((⟨pos, q, []⟩, b, .slice none 0 0) :: os)) ∧ Hid (Below base w1 wx) ∧ Hid (wx.cell? ⟨w.heap.size, 1, none⟩ = some (.int .i64 pos)))
  case first =>
    go_region_law (refine app_step (W := (w1.drew.alloc (.cells #[.int .i64 pos, .bool q, .slice none 0 0] 90)).alloc (.cells #[.pointer (some ⟨w1.heap.size, 0, none⟩)] 87)) (by rfl) (.tmp 24) (.tmp 30) 81 (by rfl) base 87 _ 1 8 Tryz.underlying81 infoPtr rfl (by decide) (by decide) (.slice A os.length c) os.length (os.reverse.map fun o => .pointer (some ⟨o.2.1, 0, none⟩)) (by rfl) (own_keep HOP.out (((K1.out.drew).alloc _).alloc _) (by simp)) _ 1 [.pointer (some ⟨w1.heap.size, 0, none⟩)] (by rfl) (src_new _ _ _ _ _ _ (by rfl) (by simp)) (by simp [Value.oneCell']) (Nat.le_trans hbase (((K1.out.drew).alloc _).alloc _).size) (by omega) ?_; intro B4 c4 w4 ho4 hc4 hb4; have q0 : w4.cell? ⟨g, 2, none⟩ = some (.slice A os.length c) := hc4.cell (z2d _ _) HG.out; have q1 : w4.frozen? ⟨g, 2, none⟩ = false := hc4.frozen (z2d _ _) (KEEP.out _ (((Chg.refl [] w1).drew.alloc _).alloc _)).2.2.2 HG.out)
    all_goals
      go_wp2
      go_meet
      have K4 := Lib.hid hc4
      have HO4 := Lib.hid ho4
      clear hc4 ho4 hb4 q0 q1 z1 z2 z1d z2d
      have kW1 : Chg [] w1 ((w1.drew.alloc (.cells #[.int .i64 pos, .bool q, .slice none 0 0] 90)).alloc (.cells #[.pointer (some ⟨w1.heap.size, 0, none⟩)] 87)) := ((Chg.refl [] w1).drew.alloc _).alloc _
      have kW := K1.out.same kW1
      have hbW := kW.at HBK.out (by simp)
      have hoW : ((w1.drew.alloc (.cells #[.int .i64 pos, .bool q, .slice none 0 0] 90)).alloc (.cells #[.pointer (some ⟨w1.heap.size, 0, none⟩)] 87)).heap[w1.heap.size]? = some (.cells #[.int .i64 pos, .bool q, .slice none 0 0] 90 (0, 0)) := blk_old (by show _ < (w1.heap.push _).size; simp) (blk_new rfl)
      have hbase1 : base ≤ w1.heap.size := Nat.le_trans hbase K1.out.size
      have kk : Chg (g :: ob (.slice A os.length c)) w1 (w4.setCell ⟨g, 2, none⟩ (.slice B4 (os.length + 1) c4)) := ((kW1.mono (fun _ h => by cases h)).trans K4.out (fun b hb => .inl (List.mem_cons_of_mem _ hb))).set _ _ (.inl (List.mem_cons_self ..))
      refine ⟨Lib.hid ⟨w1.heap.size, (H.out.chg kW).push hbW K4.out ⟨pos, q, []⟩ w1.heap.size rfl ⟨hbase1, fun o' ho' e => ?_⟩ ?_ HO4.out⟩, Lib.hid (below_chg kk (fun b hb => ?_) hbase1), Lib.hid ?_⟩
      · have h1 := HLT.out o' ho'
        have h2 := K1.out.size
        omega
      · exact K4.out.at hoW (fun hm => own_blk_ne (own_keep HOP.out kW (by simp)) hoW (by decide) (mem_ob.1 hm))
      · rcases List.mem_cons.1 hb with rfl | hb
        · exact H.out.hg
        · exact (HOP.out.lt b (mem_ob.1 hb)).1
      · have h1 := kW1.at HBX.out (by simp)
        have h2 := K4.out.at h1 (fun hm => own_blk_ne (own_keep HOP.out kW (by simp)) h1 (by decide) (mem_ob.1 hm))
        have hgl := H.out.base_le.2
        have h3 := blk_far h2 (p := ⟨g, 2, none⟩) (by show w.heap.size ≠ g; omega) (.slice B4 (os.length + 1) c4)
        exact blk_cell h3 1
  case rest =>
    obtain ⟨HI, HB, HX⟩ := hcut
    obtain ⟨b, hI⟩ := HI.out
    have HI2 := Lib.hid hI
    have hx1 := HX.out
    have hB1 := Lib.hid ((below_chg0 K1.out hbase).trans HB.out)
    clear hI HI HX HB KEEP x0 x1 y2 yf z1 z2 z1d z2d H HBK HOP HG
    cases q with
    | true =>
      have PC := Lib.hid (put_all base g rs tops v1 ((⟨pos, true, []⟩, b, .slice none 0 0) :: os) ⟨3, pos, 0, quoteL, []⟩ (.slice none 0 0) _ HI2.out (ints_nil _ _) (apart_nil _) (by simp only [List.length_cons]; omega) hb2 (fun o ho => by
        rcases List.mem_cons.1 ho with rfl | ho
        · exact Nat.zero_le _
        · exact hb3'.out o ho) (by simp only [List.length_cons]; omega))
      go_wp2_with fail
      refine PC.out.mono ?_
      rintro e w2 ⟨rfl, hst, hb, _⟩
      have R1 := Lib.hid hst
      have R2 := Lib.hid hb
      clear hst hb
      go_wp2_with fail
      go_ret
      exact ⟨rfl, R1.out, hB1.out.trans R2.out⟩
    | false =>
      go_wp2_with fail
      go_ret
      exact ⟨rfl, ⟨_, _, _, HI2.out, rfl, rfl⟩, hB1.out⟩
end Go.Proofs.YtomhkemdafiphaaGreatDoor.ReadM
/- The contract of read.Read; each states its conditions. -/
namespace Go.Proofs.YtomhkemdafiphaaGreatDoor.ReadM
open Go Go.RowKit Go.Proofs.YtomhkemdafiphaaGreatDoor.Heap Go.Proofs.YtomhkemdafiphaaGreatDoor.Own Go.Proofs.YtomhkemdafiphaaGreatDoor.ReadP Go.Proofs.YtomhkemdafiphaaGreatDoor.LexP
open Go.Proofs.YtomhkemdafiphaaGreatDoorW.PrintWords (Aside0 below_then below_alloc)
/-- token, at any reader -/
theorem token_all (base g k : Nat) (rs : List (Nd × Value)) (tops : List Int) (v1 : Value) (os : List (Pt × Nat × Value)) (t : Tok) (w : World) (h : IsRd w base g rs tops v1 os) (hk : 1 ≤ t.kind ∧ t.kind ≤ 6) (hi : Inv k (rs.map (·.1), tops, os.map (·.1))) (hk2 : k ≤ 4001) :
    Calls Tryz.prog 34 #[.pointer (some ⟨g, 0, none⟩), tokV t] w (TokPost w base g (tokS (rs.map (·.1), tops, os.map (·.1)) t)) := by
  obtain ⟨h1, h2, h3, h4⟩ := hi
  simp only [List.length_map] at h1 h2 h3 h4
  have h4' : ∀ o ∈ os, o.1.l.length ≤ 20000 := fun o ho => by
    have := h4 o.1 (List.mem_map_of_mem ho)
    omega
  have hc : t.kind = 1 ∨ t.kind = 2 ∨ t.kind = 3 ∨ t.kind = 4 ∨ t.kind = 5 ∨ t.kind = 6 := by omega
  have opens : t.kind = 1 ∨ t.kind = 3 → Calls Tryz.prog 34 #[.pointer (some ⟨g, 0, none⟩), tokV t] w (TokPost w base g (tokS (rs.map (·.1), tops, os.map (·.1)) t)) := fun hh => by
    by_cases hd : 50 ≤ os.length
    · exact token_deep base g rs tops v1 os t w h hh hd (by omega)
    · obtain ⟨kd, pos, n, s⟩ := t
      simp only at hh
      rcases hh with rfl | rfl
      · exact token_open base g rs tops v1 os false pos n s w h (by omega) (by omega) (by omega) h4'
      · exact token_open base g rs tops v1 os true pos n s w h (by omega) (by omega) (by omega) h4'
  rcases hc with hc | hc | hc | hc | hc | hc
  · exact opens (.inl hc)
  · exact token_close base g rs tops v1 os t w h hc (by omega) (by omega) h4' (by omega)
  · exact opens (.inr hc)
  · exact token_datum base g rs tops v1 os t w h (.inl hc) (by omega) (by omega) h4' (by omega)
  · exact token_datum base g rs tops v1 os t w h (.inr (.inl hc)) (by omega) (by omega) h4' (by omega)
  · exact token_datum base g rs tops v1 os t w h (.inr (.inr hc)) (by omega) (by omega) h4' (by omega)
/-- Read's answer as it is told -/
def ReadPost (base : Nat) (x : Except (Int × Int) (List Nd × List Int)) (e : Ending) (w' : World) : Prop := match x with
  | .error (i, er) => e = .returned (.tuple #[.slice none 0 0, .slice none 0 0, .int .i64 i, .int .i64 er])
  | .ok (row, tops) => ∃ v0 v1 rs, e = .returned (.tuple #[v0, v1, .int .i64 0, .int .i64 0]) ∧ rs.map (·.1) = row ∧ Nodes w' base v0 rs ∧ Ints w' base v1 tops ∧ (∀ p ∈ rs, Ints w' base p.2 p.1.l) ∧ Apart (v1 :: rs.map (·.2))
theorem toks_take (ts : List Tok) (k : Nat) (t : Tok) (st : List Nd × List Int × List Pt) (h : ts[k]? = some t) : toksS st (ts.drop k) = match tokS st t with
    | .error e => .error (t.pos, e)
    | .ok st' => toksS st' (ts.drop (k + 1)) := by
  have hk : k < ts.length := (List.getElem?_eq_some_iff.1 h).1
  rw [List.drop_eq_getElem_cons hk, show ts[k] = t from (List.getElem?_eq_some_iff.1 h).2]
  rfl
/-- the cells of a token of a row -/
theorem tok_cells {w : World} {base : Nat} {B : Option Addr} {c : Nat} {ts : List Tok} {k : Nat} {t : Tok} (h : w.ownsRow base 85 4 (.slice B ts.length c) ts.length (ts.flatMap Go.Proofs.YtomhkemdafiphaaGreatDoor.LexC.tokC)) (hk : ts[k]? = some t) :
    ∃ b, B = some ⟨b, 0, none⟩ ∧ w.cell? ⟨b, k * 4, none⟩ = some (.int .u8 t.kind) ∧ w.cell? ⟨b, k * 4 + 1, none⟩ = some (.int .i64 t.pos) ∧ w.cell? ⟨b, k * 4 + 2, none⟩ = some (.int .i64 t.n) ∧ w.cell? ⟨b, k * 4 + 3, none⟩ = some (.string ⟨t.s.toArray⟩) := by
  have hlt : k < ts.length := (List.getElem?_eq_some_iff.1 hk).1
  rcases h.2 with ⟨h1, h2⟩ | ⟨g, cap, cur, h1, _⟩
  · omega
  · simp only [Value.slice.injEq] at h1
    obtain ⟨rfl, _, _⟩ := h1
    obtain ⟨b, o, h3, _, hc⟩ := (Src.own h).pl (by omega) (by decide)
    injection h3 with h3
    injection h3 with h3 h4
    subst h3; subst h4
    have fl : ∀ (ts : List Tok) (k : Nat) (t : Tok), ts[k]? = some t → ∀ i, i < 4 → (ts.flatMap Go.Proofs.YtomhkemdafiphaaGreatDoor.LexC.tokC)[k * 4 + i]? = (Go.Proofs.YtomhkemdafiphaaGreatDoor.LexC.tokC t)[i]? := by
      intro ts
      induction ts with
      | nil => intro k t h; simp at h
      | cons x ts ih =>
        intro k t h i hi
        rw [List.flatMap_cons]
        have hl : (Go.Proofs.YtomhkemdafiphaaGreatDoor.LexC.tokC x).length = 4 := rfl
        cases k with
        | zero =>
          have : x = t := by simpa using h
          subst this
          rw [Nat.zero_mul, Nat.zero_add, List.getElem?_append_left (by omega)]
        | succ k =>
          rw [List.getElem?_append_right (by omega), hl, show (k + 1) * 4 + i - 4 = k * 4 + i from by omega]
          exact ih k t (by simpa using h) i hi
    have f := fl ts k t hk
    have q0 := hc (k * 4 + 0) (.int .u8 t.kind) (by rw [f 0 (by omega)]; rfl)
    have q1 := hc (k * 4 + 1) (.int .i64 t.pos) (by rw [f 1 (by omega)]; rfl)
    have q2 := hc (k * 4 + 2) (.int .i64 t.n) (by rw [f 2 (by omega)]; rfl)
    have q3 := hc (k * 4 + 3) (.string ⟨t.s.toArray⟩) (by rw [f 3 (by omega)]; rfl)
    rw [Nat.zero_add] at q0 q1 q2 q3
    exact ⟨g, rfl, q0, q1, q2, q3⟩
def intOf6 : Value → Int | .int _ q => q | _ => 0
/-- a reader at the beginning -/
theorem rd_new (w : World) : IsRd (w.alloc (.cells #[.slice none 0 0, .slice none 0 0, .slice none 0 0] 83)) w.heap.size w.heap.size [] [] (.slice none 0 0) [] :=
  ⟨⟨_, _, blk_new rfl, World.ownsRow_nil _ _ _ _, World.ownsRow_nil _ _ _ _⟩, Nat.le_refl _, ints_nil _ _, (fun _ h => by cases h), List.nodup_nil, (fun _ h => by cases h), by simp [Apart]⟩
theorem ret4 {fn : Func} {t u v x : Tmp} (h : fn.results = #[.tmp t, .tmp u, .tmp v, .tmp x]) (tmps : Array Value) (P : Program) (w : World) :
    (results fn tmps).run P w = .ok (.tuple #[tmps.getD t undef, tmps.getD u undef, tmps.getD v undef, tmps.getD x undef]) w := by
  simp [results, h]
/-- a reader, and what is still to be read -/
def RdAt (ts : List Tok) (w : World) (base k : Nat) : Prop := ∃ rs tops v1 os, IsRd w base base rs tops v1 os ∧ Inv k (rs.map (·.1), tops, os.map (·.1)) ∧ toksS ([], [], []) ts = toksS (rs.map (·.1), tops, os.map (·.1)) (ts.drop k)
theorem tokS_err {st : List Nd × List Int × List Pt} {t : Tok} {er : Int} (h : tokS st t = .error er) : er ≠ 0 := by
  unfold tokS at h
  split at h
  · cases h
  split at h
  · cases h
  split at h
  · cases h
  split at h
  · split at h
    · injection h with h; omega
    · split at h
      · injection h with h; omega
      · cases h
  split at h
  · injection h with h; omega
  split at h
  · cases h
  · cases h
set_option maxHeartbeats 8000000 in
set_option maxRecDepth 100000 in
theorem read_calls (s : ByteArray) (w : World) (hV : Go.Proofs.YtomhkemdafiphaaGreatDoor.LexC.Vars w) :
    Calls Tryz.prog 14 #[.string s] w fun e w' => (∃ base, w.heap.size ≤ base ∧ ReadPost base (readF s.data.toList) e w') ∧ Below w.heap.size w w' := by
  have FS := Go.Proofs.YtomhkemdafiphaaGreatDoor.LexC.lex_calls s w hV
  unfold readF
  cases hL : lexF s.data.toList with
  | error x =>
    obtain ⟨i, er⟩ := x
    rw [hL] at FS
    simp only [Go.Proofs.YtomhkemdafiphaaGreatDoor.LexC.LexPost] at FS
    have hne : er ≠ 0 := by
      unfold lexF at hL
      split at hL
      · injection hL with hL; injection hL with _ hL; omega
      · exact lexL_err _ _ _ _ _ (Nat.le_refl _) hL
    have t1 : (er == 0) = false := by simpa using hne
    have t1' : (er != 0) = true := by simpa using hne
    have FS' := Lib.hid FS
    clear FS hL hne
    go_enter Tryz.func14, Tryz.ntmps14
    go_wp2_with fail
    refine FS'.out.mono ?_
    rintro e w2 ⟨rfl, hb⟩
    have HB2 := Aside0.mk hb
    clear hb
    go_wp2_with fail
    refine bodyPost_ret (ret4 rfl _ _ _) rfl ?_
    exact ⟨⟨_, Nat.le_refl _, rfl⟩, HB2.out⟩
  | ok ts =>
    obtain ⟨hkd, htl⟩ := lexF_kinds hL
    rw [hL] at FS
    simp only [Go.Proofs.YtomhkemdafiphaaGreatDoor.LexC.LexPost] at FS
    simp only
    have FS' := Lib.hid FS
    have HKD := Lib.hid hkd
    generalize hans : readT ts = ans
    unfold readT at hans
    have HANS := Lib.hid hans
    clear FS hL hkd hans
    go_enter Tryz.func14, Tryz.ntmps14
    go_wp2_with fail
    refine FS'.out.mono ?_
    rintro e w2 ⟨⟨Bt, ct, rfl, ho⟩, hb⟩
    have HB2 := Aside0.mk hb
    have HO := Lib.hid ho
    clear hb ho
    go_wp2_with fail
    go_loopw [26] (fun i wr => ∃ k : Nat, i = .int .i64 k ∧ k ≤ ts.length ∧ Hid (RdAt ts wr w2.heap.size k) ∧ Aside0 (Below w2.heap.size w2 wr)) (fun i _ => ts.length - (intOf6 i).toNat)
    case atStart => exact ⟨0, rfl, Nat.zero_le _, ⟨[], [], .slice none 0 0, [], rd_new w2, ⟨Nat.le_refl _, Nat.le_refl _, Nat.zero_le _, fun _ h => by cases h⟩, rfl⟩, ⟨(Below.refl _ _).alloc (Nat.le_refl _) _⟩⟩
    case round =>
      obtain ⟨k, rfl, hk, HR, HB⟩ := hrel
      obtain ⟨rs, tops, v1, os, hI, hinv, htk⟩ := HR.out
      have HI := Lib.hid hI
      have HINV := Lib.hid hinv
      have HTK := Lib.hid htk
      clear hI hinv htk HR
      by_cases hkl : k < ts.length
      · have e0 : decide ((k : Int) < (ts.length : Int)) = true := decide_eq_true (by omega)
        have e0' : decide (k < ts.length) = true := decide_eq_true hkl
        obtain ⟨t, ht⟩ : ∃ t, ts[k]? = some t := ⟨_, List.getElem?_eq_getElem hkl⟩
        obtain ⟨b, rfl, x0, x1, x2, x3⟩ := tok_cells (own_keep HO.out (Chg.of_below (F := []) HB.out) (by simp)) ht
        have q0 : (0 : Int) ≤ (k : Int) := by omega
        have q1 : (k : Int) < (ts.length : Int) := by omega
        have hst := toks_take ts k t (rs.map (·.1), tops, os.map (·.1)) ht
        have TC := fun W (kW : Chg [] wr W) => token_all w2.heap.size w2.heap.size k rs tops v1 os t W (HI.out.chg kW) (HKD.out t (List.mem_of_getElem? ht)) HINV.out (by omega)
        have HT := Lib.hid ht
        clear ht
        cases hx : tokS (rs.map (·.1), tops, os.map (·.1)) t with
        | error er =>
          rw [hx] at TC hst
          have hne : er ≠ 0 := tokS_err hx
          have t1 : (er == 0) = false := by simpa using hne
          have t1' : (er != 0) = true := by simpa using hne
          have hans : ans = .error (t.pos, er) := by
            have h0 := HANS.out
            rw [show toksS ([], [], []) ts = _ from HTK, hst] at h0
            exact h0.symm
          have HA := Lib.hid hans
          have TC' := Lib.hid TC
          clear TC hst hx hne hans
          go_wp2_with fail
          refine (TC'.out _ ((Chg.refl [] wr).alloc _)).mono ?_
          rintro e w4 ⟨rfl, hc⟩
          have hbx := blk_cell (hc.at (blk_new rfl) (by simp)) 1
          simp at hbx
          have HB4 := Aside0.mk (below_then HB.out HB.out.size (((Chg.refl [] wr).alloc (.cells #[.int .u8 t.kind, .int .i64 t.pos, .int .i64 t.n, .string ⟨t.s.toArray⟩] 85)).sub hc).below)
          clear hc
          go_wp2_with fail
          go_quiet (fail)
          go_wp2_with fail
          try simp only [Exit.inBlock, Exit.then]
          refine bodyPost_ret (ret4 rfl _ _ _) rfl ?_
          rw [show ans = _ from HA]
          exact ⟨⟨_, HB2.out.size, rfl⟩, below_draw (below_then HB2.out HB2.out.size HB4.out) _⟩
        | ok st =>
          rw [hx] at TC hst
          have hin2 := tok_small HINV.out hx
          have HIN2 := Lib.hid hin2
          have HST := Lib.hid hst
          have TC' := Lib.hid TC
          have t1 : ((0 : Int) != 0) = false := rfl
          clear TC hst hx hin2
          go_wp2_with fail
          refine (TC'.out _ ((Chg.refl [] wr).alloc _)).mono ?_
          rintro e w4 ⟨rfl, ⟨rs', v1', os', hI', e1, e2⟩, hc⟩
          have HI2 := Lib.hid hI'
          have E1 := Lib.hid e1
          have E2 := Lib.hid e2
          have HB4 := Aside0.mk (HB.out.trans ((below_chg0 ((Chg.refl [] wr).alloc (.cells #[.int .u8 t.kind, .int .i64 t.pos, .int .i64 t.n, .string ⟨t.s.toArray⟩] 85)) HB.out.size).trans hc))
          clear hI' e1 e2 hc
          go_wp2_with fail
          go_roundw
          case rel =>
            refine ⟨k + 1, by simp, by omega, ⟨rs', st.2.1, v1', os', HI2.out, ?_, ?_⟩, HB4⟩
            · rw [E1.out, E2.out]; exact HIN2.out
            · rw [E1.out, E2.out, show toksS ([], [], []) ts = _ from HTK, show toksS (rs.map (·.1), tops, os.map (·.1)) (ts.drop k) = _ from HST]
          case measure => simp [intOf6]; omega
      · have e0 : decide ((k : Int) < (ts.length : Int)) = false := decide_eq_false (by omega)
        have e0' : decide (k < ts.length) = false := decide_eq_false hkl
        have hkt : k = ts.length := by omega
        have htk := HTK.out
        rw [hkt, List.drop_length] at htk
        have hans : ans = endS ts.getLast? (rs.map (·.1), tops, os.map (·.1)) := by
          have h0 := HANS.out
          rw [htk] at h0
          exact h0.symm
        have HA := Lib.hid hans
        have LC := Lib.hid (last_any HI.out (by have := HINV.out.2.2.1; simp at this; omega))
        have HTK2 := Lib.hid htk
        clear htk hans hkt
        cases os with
        | nil =>
          obtain ⟨v0, A, c, hbk, hnd, _⟩ := HI.out.cells
          have LC0 := Lib.hid (last_rd0 HI.out)
          have z0 := blk_cell hbk 0
          have z1 := blk_cell hbk 1
          simp at z0 z1
          have HND := Lib.hid hnd
          clear hbk hnd LC
          go_wp2_with fail
          refine LC0.out.mono ?_
          rintro e w5 ⟨rfl, rfl⟩
          go_wp2_with fail
          go_quiet (fail)
          go_wp2_with fail
          try simp only [Exit.inBlock, Exit.then]
          refine bodyPost_ret (ret4 rfl _ _ _) rfl ?_
          rw [show ans = _ from HA]
          refine ⟨⟨w2.heap.size, HB2.out.size, ⟨v0, v1, rs, rfl, rfl, ?_, ?_, ?_, ?_⟩⟩, below_draw (below_then HB2.out HB2.out.size HB.out) _⟩
          · exact own_keep HND.out ((Chg.refl [] wr).draw _) (by simp)
          · exact own_keep HI.out.top ((Chg.refl [] wr).draw _) (by simp)
          · exact fun p hp => own_keep (HI.out.inn p hp) ((Chg.refl [] wr).draw _) (by simp)
          · exact HI.out.apart
        | cons o os =>
          obtain ⟨m, hm⟩ : ∃ m, ts.length = m + 1 := by
            cases ts with
            | nil => have := HTK2.out; simp [toksS] at this
            | cons a b => exact ⟨_, rfl⟩
          obtain ⟨tl, htl'⟩ : ∃ tl, ts[m]? = some tl := ⟨_, List.getElem?_eq_getElem (by omega)⟩
          have hlast : ts.getLast? = some tl := by rw [List.getLast?_eq_getElem?, hm]; exact htl'
          obtain ⟨b, rfl, x0, _, _, _⟩ := tok_cells (own_keep HO.out (Chg.of_below (F := []) HB.out) (by simp)) htl'
          obtain ⟨o, ob', v⟩ := o
          have hans2 : ans = .error (o.at_, if tl.kind = 3 then 63 else 60) := by
            rw [show ans = _ from HA, hlast]
            unfold endS
            simp
          have HA2 := Lib.hid hans2
          have hob := (HI.out.ops _ (List.mem_cons_self ..)).2.1
          have y0 := blk_cell hob 0
          simp at y0
          have Y0 := Lib.hid y0
          have LC1 := Lib.hid (last_rd1 HI.out (by have := HINV.out.2.2.1; simp at this; omega))
          have e2 : decide ((k : Int) < (m : Int) + 1) = false := decide_eq_false (by omega)
          have e2' : decide (k < m + 1) = false := decide_eq_false (by omega)
          have b0 : (0 : Int) ≤ (m : Int) := by omega
          have b1 : (m : Int) < (m : Int) + 1 := by omega
          have b2 : (m : Int) < 4001 := by omega
          have b3 : (m : Int) + 1 - 1 = (m : Int) := by omega
          have x0' := Lib.hid x0
          clear hans2 hob y0 LC hlast htl' x0 hkl hk htl
          by_cases h3 : tl.kind = 3
          · have t3 : (tl.kind == 3) = true := by simp [h3]
            have H3 := Lib.hid h3
            clear h3
            go_wp2_with fail
            refine LC1.out.mono ?_
            rintro e w5 ⟨rfl, n5, hw5⟩
            have z0 : w5.cell? ⟨b, m * 4, none⟩ = some (.int .u8 tl.kind) := by rw [hw5]; exact x0'.out
            have z1 : w5.cell? ⟨ob', 0, none⟩ = some (.int .i64 o.at_) := by rw [hw5]; exact Y0.out
            have HB5 := Lib.hid (show Below w.heap.size w w5 by rw [hw5]; exact below_draw (below_then HB2.out HB2.out.size HB.out) _)
            clear hw5
            go_wp2_with fail
            go_quiet (fail)
            go_wp2_with fail
            try simp only [Exit.inBlock, Exit.then]
            refine bodyPost_ret (ret4 rfl _ _ _) rfl ?_
            rw [show ans = _ from HA2, if_pos H3.out]
            exact ⟨⟨_, HB2.out.size, rfl⟩, below_draw HB5.out _⟩
          · have t3 : (tl.kind == 3) = false := by simpa using h3
            have H3 := Lib.hid h3
            clear h3
            go_wp2_with fail
            refine LC1.out.mono ?_
            rintro e w5 ⟨rfl, n5, hw5⟩
            have z0 : w5.cell? ⟨b, m * 4, none⟩ = some (.int .u8 tl.kind) := by rw [hw5]; exact x0'.out
            have z1 : w5.cell? ⟨ob', 0, none⟩ = some (.int .i64 o.at_) := by rw [hw5]; exact Y0.out
            have HB5 := Lib.hid (show Below w.heap.size w w5 by rw [hw5]; exact below_draw (below_then HB2.out HB2.out.size HB.out) _)
            clear hw5
            go_wp2_with fail
            go_quiet (fail)
            go_wp2_with fail
            try simp only [Exit.inBlock, Exit.then]
            refine bodyPost_ret (ret4 rfl _ _ _) rfl ?_
            rw [show ans = _ from HA2, if_neg H3.out]
            exact ⟨⟨_, HB2.out.size, rfl⟩, below_draw HB5.out _⟩
end Go.Proofs.YtomhkemdafiphaaGreatDoor.ReadM
/- Contracts of Ints and Same at rows that are the same; each states its conditions. -/
namespace Go.Proofs.YtomhkemdafiphaaGreatDoor.ReadM
open Go Go.RowKit Go.Proofs.YtomhkemdafiphaaGreatDoor.Heap Go.Proofs.YtomhkemdafiphaaGreatDoor.Own Go.Proofs.YtomhkemdafiphaaGreatDoor.ReadP
open Go.Proofs.YtomhkemdafiphaaGreatDoorW.PrintWords (Aside0 below_then below_alloc)
/-- a slice that reads as numbers -/
def RI (w : World) (v : Value) (l : List Int) : Prop := ∃ A c, v = .slice A l.length c ∧ l.length ≤ c ∧ (0 < l.length → ∃ b o, A = some ⟨b, o, none⟩ ∧ ∀ j x, l[j]? = some x → w.cell? ⟨b, o + j, none⟩ = some (.int .i64 x))
/-- a slice that reads as data -/
def RN (w : World) (v : Value) (rs : List (Nd × Value)) : Prop := ∃ A c, v = .slice A rs.length c ∧ rs.length ≤ c ∧ (0 < rs.length → ∃ b o, A = some ⟨b, o, none⟩ ∧ ∀ (j : Nat) p, rs[j]? = some p → w.cell? ⟨b, o + j * 5, none⟩ = some (.int .u8 p.1.kind) ∧ w.cell? ⟨b, o + j * 5 + 1, none⟩ = some (.int .i64 p.1.pos) ∧ w.cell? ⟨b, o + j * 5 + 2, none⟩ = some (.int .i64 p.1.n) ∧ w.cell? ⟨b, o + j * 5 + 3, none⟩ = some (.string ⟨p.1.s.toArray⟩) ∧ w.cell? ⟨b, o + j * 5 + 4, none⟩ = some p.2) ∧ ∀ p ∈ rs, RI w p.2 p.1.l
theorem RI.chg {w w' : World} {v : Value} {l : List Int} (h : RI w v l) (k : Chg [] w w') : RI w' v l := by
  obtain ⟨A, c, h1, h2, h3⟩ := h
  exact ⟨A, c, h1, h2, fun hp => by
    obtain ⟨b, o, h4, h5⟩ := h3 hp
    exact ⟨b, o, h4, fun j x hj => k.cell (h5 j x hj) (by simp)⟩⟩
theorem RN.chg {w w' : World} {v : Value} {rs : List (Nd × Value)} (h : RN w v rs) (k : Chg [] w w') : RN w' v rs := by
  obtain ⟨A, c, h1, h2, h3, h6⟩ := h
  refine ⟨A, c, h1, h2, fun hp => ?_, fun p hp => (h6 p hp).chg k⟩
  obtain ⟨b, o, h4, h5⟩ := h3 hp
  refine ⟨b, o, h4, fun j x hj => ?_⟩
  obtain ⟨a1, a2, a3, a4, a5⟩ := h5 j x hj
  exact ⟨k.cell a1 (by simp), k.cell a2 (by simp), k.cell a3 (by simp), k.cell a4 (by simp), k.cell a5 (by simp)⟩
theorem own_cap {w : World} {base e size n c : Nat} {A : Option Addr} {xs : List Value} (h : w.ownsRow base e size (.slice A n c) n xs) : n ≤ c := by
  rcases h.2 with ⟨h1, h2⟩ | ⟨g, cap, cur, h1, _, _, h2, _⟩
  · omega
  · simp only [Value.slice.injEq] at h1
    obtain ⟨_, _, rfl⟩ := h1
    exact h2
theorem Ints.ri {w : World} {base : Nat} {v : Value} {l : List Int} (h : Ints w base v l) : RI w v l := by
  obtain ⟨A, c, rfl⟩ := own_slice h
  refine ⟨A, c, rfl, own_cap h, fun hp => ?_⟩
  obtain ⟨b, o, h1, _, h2⟩ := (Src.own h).pl hp (by decide)
  exact ⟨b, o, h1, fun j x hj => h2 j _ (by simp [nums, hj])⟩
theorem flat5 (f : (Nd × Value) → List Value) (hf : ∀ p, (f p).length = 5) : ∀ (ts : List (Nd × Value)) (k : Nat) (t : Nd × Value), ts[k]? = some t → ∀ i, i < 5 → (ts.flatMap f)[k * 5 + i]? = (f t)[i]?
  | [], k, t, h, i, hi => by simp at h
  | x :: ts, 0, t, h, i, hi => by
    have : x = t := by simpa using h
    subst this
    rw [List.flatMap_cons, Nat.zero_mul, Nat.zero_add, List.getElem?_append_left (by rw [hf]; omega)]
  | x :: ts, k + 1, t, h, i, hi => by
    rw [List.flatMap_cons, List.getElem?_append_right (by rw [hf]; omega), hf, show (k + 1) * 5 + i - 5 = k * 5 + i from by omega]
    exact flat5 f hf ts k t (by simpa using h) i hi
theorem Nodes.rn {w : World} {base : Nat} {v : Value} {rs : List (Nd × Value)} (h : Nodes w base v rs) (hi : ∀ p ∈ rs, Ints w base p.2 p.1.l) : RN w v rs := by
  obtain ⟨A, c, rfl⟩ := own_slice h
  refine ⟨A, c, rfl, own_cap h, fun hp => ?_, fun p hp => (hi p hp).ri⟩
  obtain ⟨b, o, h1, _, h2⟩ := (Src.own h).pl hp (by decide)
  refine ⟨b, o, h1, fun j p hj => ?_⟩
  have f := flat5 nodeC (fun _ => rfl) rs j p hj
  exact ⟨h2 (j * 5 + 0) _ (by rw [f 0 (by omega)]; rfl), h2 (j * 5 + 1) _ (by rw [f 1 (by omega)]; rfl), h2 (j * 5 + 2) _ (by rw [f 2 (by omega)]; rfl), h2 (j * 5 + 3) _ (by rw [f 3 (by omega)]; rfl), h2 (j * 5 + 4) _ (by rw [f 4 (by omega)]; rfl)⟩
set_option maxHeartbeats 2000000 in
/-- rows of the same numbers are the same -/
theorem ints_same (l : List Int) (v1 v2 : Value) (w : World) (h1 : RI w v1 l) (h2 : RI w v2 l) (hl : l.length ≤ 1000000) :
    Calls Tryz.prog 15 #[v1, v2] w fun e w' => e = .returned (.bool true) ∧ ∃ m, w' = w.drewN m := by
  obtain ⟨A1, c1, rfl, g1, r1⟩ := h1
  obtain ⟨A2, c2, rfl, g2, r2⟩ := h2
  have t0 : ((l.length : Int) != (l.length : Int)) = false := by simp
  have bl : (l.length : Int) ≤ 1000000 := by omega
  have R1 := Lib.hid r1
  have R2 := Lib.hid r2
  clear r1 r2
  go_enter Tryz.func15, Tryz.ntmps15
  go_wp2
  go_loopw [5] (fun i wr => ∃ k : Nat, i = .int .i64 k ∧ k ≤ l.length ∧ Hid (∃ m, wr = w.drewN m)) (fun i _ => l.length - (intOf6 i).toNat)
  case atStart => exact ⟨0, rfl, Nat.zero_le _, ⟨0, rfl⟩⟩
  case round =>
    obtain ⟨k, rfl, hk, HW⟩ := hrel
    by_cases hkl : k < l.length
    · have e0 : decide ((k : Int) < (l.length : Int)) = true := decide_eq_true (by omega)
      have e0' : decide (k < l.length) = true := decide_eq_true hkl
      obtain ⟨m, hm⟩ := HW.out
      obtain ⟨b1, o1, rfl, q1⟩ := R1.out (by omega)
      obtain ⟨b2, o2, rfl, q2⟩ := R2.out (by omega)
      obtain ⟨x, hx⟩ : ∃ x, l[k]? = some x := ⟨_, List.getElem?_eq_getElem hkl⟩
      have y1 : wr.cell? ⟨b1, o1 + k, none⟩ = some (.int .i64 x) := by rw [hm]; exact q1 k x hx
      have y2 : wr.cell? ⟨b2, o2 + k, none⟩ = some (.int .i64 x) := by rw [hm]; exact q2 k x hx
      have p0 : (0 : Int) ≤ (k : Int) := by omega
      have p1 : (k : Int) < (l.length : Int) := by omega
      have HM := Lib.hid hm
      clear q1 q2 hx hm HW
      go_wp2
      go_quiet (fail)
      go_wp2
      go_roundw
      case rel => exact ⟨k + 1, by simp, by omega, ⟨_, by rw [HM.out, World.drewN_drewN]⟩⟩
      case measure => simp [intOf6]; omega
    · have e0 : decide ((k : Int) < (l.length : Int)) = false := decide_eq_false (by omega)
      have e0' : decide (k < l.length) = false := decide_eq_false hkl
      go_wp2
      go_ret
      exact ⟨rfl, HW.out⟩
set_option maxHeartbeats 4000000 in
set_option maxRecDepth 100000 in
/-- rows of the same data are the same -/
theorem nodes_same (rs1 rs2 : List (Nd × Value)) (v1 v2 : Value) (w : World) (h1 : RN w v1 rs1) (h2 : RN w v2 rs2) (he : rs1.map (·.1) = rs2.map (·.1)) (hl : rs1.length ≤ 1000000) (hl2 : ∀ p ∈ rs1, p.1.l.length ≤ 1000000) :
    Calls Tryz.prog 16 #[v1, v2] w fun e w' => e = .returned (.bool true) ∧ ∃ m, w' = w.drewN m := by
  have hlen : rs2.length = rs1.length := by have := congrArg List.length he; simpa using this.symm
  obtain ⟨A1, c1, rfl, g1, r1, i1⟩ := h1
  obtain ⟨A2, c2, rfl, g2, r2, i2⟩ := h2
  rw [hlen] at g2 r2 ⊢
  have t0 : ((rs1.length : Int) != (rs1.length : Int)) = false := by simp
  have bl : (rs1.length : Int) ≤ 1000000 := by omega
  have R1 := Lib.hid r1
  have R2 := Lib.hid r2
  have I1 := Lib.hid i1
  have I2 := Lib.hid i2
  have HE := Lib.hid he
  have HL2 := Lib.hid hl2
  have HLEN := Lib.hid hlen
  clear r1 r2 i1 i2 he hl2 hlen
  generalize hn : rs1.length = n at *
  have HN := Lib.hid hn
  clear hn
  go_enter Tryz.func16, Tryz.ntmps16
  go_wp2
  go_loopw [5] (fun i wr => ∃ k : Nat, i = .int .i64 k ∧ k ≤ n ∧ Hid (∃ m, wr = w.drewN m)) (fun i _ => n - (intOf6 i).toNat)
  case atStart => exact ⟨0, rfl, Nat.zero_le _, ⟨0, rfl⟩⟩
  case round =>
    obtain ⟨k, rfl, hk, HW⟩ := hrel
    by_cases hkl : k < n
    · have e0 : decide ((k : Int) < (n : Int)) = true := decide_eq_true (by omega)
      have e0' : decide (k < n) = true := decide_eq_true hkl
      obtain ⟨m, hm⟩ := HW.out
      obtain ⟨b1, o1, rfl, q1⟩ := R1.out (by omega)
      obtain ⟨b2, o2, rfl, q2⟩ := R2.out (by omega)
      obtain ⟨p, hp⟩ : ∃ p, rs1[k]? = some p := ⟨_, List.getElem?_eq_getElem (by rw [show rs1.length = n from HN]; exact hkl)⟩
      obtain ⟨p', hp'⟩ : ∃ p, rs2[k]? = some p := ⟨_, List.getElem?_eq_getElem (by rw [show rs2.length = n from HLEN]; exact hkl)⟩
      have hpp : p.1 = p'.1 := by
        have e1 : (rs1.map (·.1))[k]? = some p.1 := by rw [List.getElem?_map, hp]; rfl
        have e2 : (rs2.map (·.1))[k]? = some p'.1 := by rw [List.getElem?_map, hp']; rfl
        rw [show rs1.map (·.1) = rs2.map (·.1) from HE, e2] at e1
        injection e1 with e1; exact e1.symm
      obtain ⟨a0, a1, a2, a3, a4⟩ := q1 k p hp
      obtain ⟨d0, d1, d2, d3, d4⟩ := q2 k p' hp'
      have hi1 := I1.out p (List.mem_of_getElem? hp)
      have hi2 := I2.out p' (List.mem_of_getElem? hp')
      have hil := HL2.out p (List.mem_of_getElem? hp)
      obtain ⟨x, L1⟩ := p
      obtain ⟨x', L2⟩ := p'
      simp only at hpp
      subst hpp
      simp only at a0 a1 a2 a3 a4 d0 d1 d2 d3 d4 hi1 hi2 hil
      have IC := Lib.hid (fun W (k : Chg [] w W) => ints_same x.l L1 L2 W (hi1.chg k) (hi2.chg k) hil)
      have W0 : Chg [] w wr := by rw [hm]; exact (Chg.refl [] w).draw m
      have KW := Lib.hid W0
      have a0 := W0.cell a0 (by simp)
      have a1 := W0.cell a1 (by simp)
      have a2 := W0.cell a2 (by simp)
      have a3 := W0.cell a3 (by simp)
      have a4 := W0.cell a4 (by simp)
      have d0 := W0.cell d0 (by simp)
      have d1 := W0.cell d1 (by simp)
      have d2 := W0.cell d2 (by simp)
      have d3 := W0.cell d3 (by simp)
      have d4 := W0.cell d4 (by simp)
      have p0 : (0 : Int) ≤ (k : Int) := by omega
      have p1 : (k : Int) < (n : Int) := by omega
      have HM := Lib.hid hm
      clear q1 q2 hp hp' hm HW hi1 hi2 hil W0
      go_wp2
      go_quiet ((go_at_call 15; exact Calls.quiet_of (IC.out _ (KW.out.draw _))))
      go_wp2
      go_roundw
      case rel => exact ⟨k + 1, by simp, by omega, ⟨_, by rw [HM.out, World.drewN_drewN]⟩⟩
      case measure => simp [intOf6]; omega
    · have e0 : decide ((k : Int) < (n : Int)) = false := decide_eq_false (by omega)
      have e0' : decide (k < n) = false := decide_eq_false hkl
      go_wp2
      go_ret
      exact ⟨rfl, HW.out⟩
end Go.Proofs.YtomhkemdafiphaaGreatDoor.ReadM
namespace Go.Proofs.YtomhkemdafiphaaGreatDoor.ReadM
open Go Go.RowKit Go.Proofs.YtomhkemdafiphaaGreatDoor.Heap Go.Proofs.YtomhkemdafiphaaGreatDoor.Own Go.Proofs.YtomhkemdafiphaaGreatDoor.ReadP
theorem own_low {w : World} {base base0 e size n : Nat} {v : Value} {xs : List Value} (h : w.ownsRow base e size v n xs) (hb : base0 ≤ base) : w.ownsRow base0 e size v n xs :=
  ⟨h.1, h.2.imp id (fun ⟨g, c, cur, h1, h2, h3⟩ => ⟨g, c, cur, h1, Nat.le_trans hb h2, h3⟩)⟩
/-- a slice that reads as data, element by element -/
theorem RN_of {w : World} {A : Option Addr} {c : Nat} {l : List Nd} (hc : l.length ≤ c) (h : 0 < l.length → ∃ b o, A = some ⟨b, o, none⟩ ∧ ∀ (j : Nat) x, l[j]? = some x → ∃ Lv, w.cell? ⟨b, o + j * 5, none⟩ = some (.int .u8 x.kind) ∧ w.cell? ⟨b, o + j * 5 + 1, none⟩ = some (.int .i64 x.pos) ∧ w.cell? ⟨b, o + j * 5 + 2, none⟩ = some (.int .i64 x.n) ∧ w.cell? ⟨b, o + j * 5 + 3, none⟩ = some (.string ⟨x.s.toArray⟩) ∧ w.cell? ⟨b, o + j * 5 + 4, none⟩ = some Lv ∧ RI w Lv x.l) :
    ∃ rs : List (Nd × Value), rs.map (·.1) = l ∧ RN w (.slice A l.length c) rs := by
  by_cases hp : 0 < l.length
  · obtain ⟨b, o, rfl, hh⟩ := h hp
    have hex : ∀ j : Nat, ∃ Lv, ∀ x, l[j]? = some x → w.cell? ⟨b, o + j * 5, none⟩ = some (.int .u8 x.kind) ∧ w.cell? ⟨b, o + j * 5 + 1, none⟩ = some (.int .i64 x.pos) ∧ w.cell? ⟨b, o + j * 5 + 2, none⟩ = some (.int .i64 x.n) ∧ w.cell? ⟨b, o + j * 5 + 3, none⟩ = some (.string ⟨x.s.toArray⟩) ∧ w.cell? ⟨b, o + j * 5 + 4, none⟩ = some Lv ∧ RI w Lv x.l := fun j => by
      cases hx : l[j]? with
      | none => exact ⟨.nilIface, fun x h => by cases h⟩
      | some x =>
        obtain ⟨Lv, hl⟩ := hh j x hx
        exact ⟨Lv, fun x' h => by injection h with h; subst h; exact hl⟩
    have hf := fun j => Classical.choose_spec (hex j)
    generalize hfe : (fun j => Classical.choose (hex j)) = f at *
    have hf' : ∀ j x, l[j]? = some x → w.cell? ⟨b, o + j * 5, none⟩ = some (.int .u8 x.kind) ∧ w.cell? ⟨b, o + j * 5 + 1, none⟩ = some (.int .i64 x.pos) ∧ w.cell? ⟨b, o + j * 5 + 2, none⟩ = some (.int .i64 x.n) ∧ w.cell? ⟨b, o + j * 5 + 3, none⟩ = some (.string ⟨x.s.toArray⟩) ∧ w.cell? ⟨b, o + j * 5 + 4, none⟩ = some (f j) ∧ RI w (f j) x.l := fun j x hx => by
      rw [← hfe]; exact hf j x hx
    refine ⟨l.zipIdx.map fun p => (p.1, f p.2), ?_, ⟨_, c, ?_, by simpa using hc, fun _ => ⟨b, o, rfl, fun j p hj => ?_⟩, fun p hp => ?_⟩⟩
    · rw [List.map_map]
      exact List.zipIdx_map_fst 0 l
    · simp
    · rw [List.getElem?_map, List.getElem?_zipIdx] at hj
      cases hx : l[j]? with
      | none => rw [hx] at hj; simp at hj
      | some x =>
        rw [hx] at hj
        simp at hj
        subst hj
        obtain ⟨a1, a2, a3, a4, a5, _⟩ := hf' j x hx
        exact ⟨a1, a2, a3, a4, a5⟩
    · obtain ⟨q, hq, rfl⟩ := List.mem_map.1 hp
      obtain ⟨j, hj⟩ := List.mem_iff_getElem?.1 hq
      rw [List.getElem?_zipIdx] at hj
      cases hx : l[j]? with
      | none => rw [hx] at hj; simp at hj
      | some x =>
        rw [hx] at hj
        simp at hj
        subst hj
        exact (hf' j x hx).2.2.2.2.2
  · have : l = [] := by
      cases l with
      | nil => rfl
      | cons a l => simp at hp
    subst this
    exact ⟨[], rfl, ⟨A, c, rfl, Nat.zero_le _, fun h => absurd h (Nat.lt_irrefl 0), fun p hp => by cases hp⟩⟩
end Go.Proofs.YtomhkemdafiphaaGreatDoor.ReadM

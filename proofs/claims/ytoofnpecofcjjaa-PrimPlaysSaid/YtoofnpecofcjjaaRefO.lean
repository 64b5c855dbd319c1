/- The contract of Alloc, where there is room, of the arena of the reference; it states its conditions. -/
import Derived.Test.YtoofnpecofcjjaaRefN
import Derived.Test.YtoofnpecofcjjaaAppStep
import Derived.Deep.RegionLaw
namespace Go.Proofs.Ytoofnpecofcjjaa.Rf
open Go Go.RowKit Go.Proofs.Ytoofnpecofcjjaa.Heap Go.Proofs.Ytoofnpecofcjjaa.Word Go.Proofs.Ytoofnpecofcjjaa.Own Go.Proofs.Ytoofnpecofcjjaa.Ar
theorem infoT : (Try.prog.info? 59).map (fun i => (i.zero, i.size, i.bytes)) = some (some (.agg #[.int .i64 0, .int .i64 0, .slice none 0 0]), 3, 40) := by kernel_rfl
theorem underTs : Try.prog.underlying 43 = some (.slice 59) := by kernel_rfl
theorem own_hi {w1 : World} {v v1 : Value} {b : Nat} (h : v1.ownBlock = v.ownBlock ∨ v1.ownBlock = some w1.heap.size) (hb : b ∈ ob v1) : b ∈ ob v ∨ b = w1.heap.size := by
  have := mem_ob.1 hb
  rcases h with h | h
  · exact .inl (mem_ob.2 (h ▸ this))
  · rw [h] at this; exact .inr (by simpa using this.symm)
theorem ralloc_fin {w w3 wx w4 : World} {R : Nat → Prop} {g size u m : Nat} {es : List RE} {At B4 : Option Addr} {ct b3 c3 c4 : Nat} {k : Int} {xs : List Int} (h : IsRf w R g size es) (hu : tot (es.map RE.th) = u) (hml : xs.length = m) (hm : m ≤ 255) (hk : 1 ≤ k) (hk' : k ≤ 9)
    (hf : u + m < size) (hR : ∀ b, w.heap.size ≤ b → R b)
    (hg : w.heap[g]? = some (.cells #[.int .i64 (size : Int), .int .i64 (u : Int), .slice At es.length ct] 45 (0, 0)))
    (ho : w.ownsRow 0 59 3 (.slice At es.length ct) es.length (es.flatMap RE.cells)) (hRt : ∀ b, b ∈ ob (.slice At es.length ct) → R b)
    (k3 : Chg [] w w3) (o3 : w3.ownsRow 0 36 1 (.slice (some ⟨b3, 0, none⟩) m c3) m (nums .u64 xs)) (hb3 : w.heap.size ≤ b3) (kx : Chg [] w3 wx)
    (k4 : Chg (ob (.slice At es.length ct)) wx w4)
    (o4 : w4.ownsRow 0 59 3 (.slice B4 (es.length + 1) c4) (es.length + 1) (es.flatMap RE.cells ++ [.int .i64 (u : Int), .int .i64 k, .slice (some ⟨b3, 0, none⟩) m c3]))
    (hb4 : (Value.slice B4 (es.length + 1) c4).ownBlock = (Value.slice At es.length ct).ownBlock ∨ (Value.slice B4 (es.length + 1) c4).ownBlock = some wx.heap.size) (n : Int) (hn : n = (u : Int) + m + 1) :
    IsRf ((w4.setCell ⟨g, 2, none⟩ (.slice B4 (es.length + 1) c4)).setCell ⟨g, 1, none⟩ (.int .i64 n)) R g size (es ++ [⟨u, k, b3, c3, xs⟩]) ∧
      ChgR R w ((w4.setCell ⟨g, 2, none⟩ (.slice B4 (es.length + 1) c4)).setCell ⟨g, 1, none⟩ (.int .i64 n)) := by
  have gs := blk_lt hg
  have s3 := k3.size
  have sx := kx.size
  have ht : tot ((es ++ [⟨u, k, b3, c3, xs⟩] : List RE).map RE.th) = u + (m + 1) := by
    rw [List.map_append, tot_append, hu]; simp [tot, RE.th, hml]
  have hT : ∀ b, b ∈ ob (.slice At es.length ct) → ∃ cur, w.heap[b]? = some (.cells cur 59 (0, 0)) := by
    intro b hb
    have := mem_ob.1 hb
    rcases ho.2 with ⟨h1, _⟩ | ⟨g', cap, cur, h1, _, h3, _⟩
    · rw [h1] at this; simp [Value.ownBlock] at this
    · rw [h1] at this; simp [Value.ownBlock] at this
      subst this; exact ⟨_, h3⟩
  have gT : g ∉ ob (.slice At es.length ct) := fun hm => by
    obtain ⟨cur, hc⟩ := hT g hm
    exact blk_ne hg hc (by decide) rfl
  have gw4 := k4.at (kx.at (k3.at hg (by simp)) (by simp)) gT
  -- the table's new block is not g
  have gB : g ∉ ob (.slice B4 (es.length + 1) c4) := fun hm => by
    rcases own_hi hb4 hm with h1 | h1
    · exact gT h1
    · omega
  have rowT : ∀ (b : Nat) (t : TypeId) (cs : Array Value), w.heap[b]? = some (.cells cs t (0, 0)) → t ≠ 59 → b ∉ ob (.slice At es.length ct) := fun b t cs hb hne hm => by
    obtain ⟨cur, hc⟩ := hT b hm
    exact blk_ne hb hc hne rfl
  have set2 : ∀ (b base sz q c : Nat) (e : TypeId) (ys : List Value), b ≠ g → w4.ownsRow base e sz (.slice (some ⟨b, 0, none⟩) q c) q ys →
      ((w4.setCell ⟨g, 2, none⟩ (.slice B4 (es.length + 1) c4)).setCell ⟨g, 1, none⟩ (.int .i64 n)).ownsRow base e sz (.slice (some ⟨b, 0, none⟩) q c) q ys := by
    intro b base sz q c e ys hbg h1
    refine own_keep (F := [g]) h1 (((Chg.refl [g] w4).set _ _ (.inl (by simp))).set _ _ (.inl (by simp))) (fun b' hb' => ?_)
    simp [Value.ownBlock] at hb'
    subst hb'
    simpa using hbg
  refine ⟨⟨⟨B4, c4, ?_, ?_, ?_⟩, ?_, ?_, ?_, ?_, h.lo, h.hi, by rw [ht]; omega, h.own⟩, ?_⟩
  · rw [blk_set (blk_set gw4 _ _), ht, hn]
    simp
    omega
  · have := own_keep (F := [g]) (w' := ((w4.setCell ⟨g, 2, none⟩ (.slice B4 (es.length + 1) c4)).setCell ⟨g, 1, none⟩ (.int .i64 n))) o4 (((Chg.refl [g] w4).set _ _ (.inl (by simp))).set _ _ (.inl (by simp))) (fun b hb hm => by
      simp at hm; subst hm; exact gB (mem_ob.2 hb))
    simpa [RE.cells, hml] using this
  · intro b hb
    rw [List.length_append] at hb
    rcases own_hi hb4 hb with h1 | h1
    · exact hRt b h1
    · exact hR b (by omega)
  · exact okAt_snoc h.pos _ (by simp [hu])
  · intro e he
    rcases List.mem_append.1 he with he | he
    · obtain ⟨h1, h2⟩ := h.row e he
      refine ⟨?_, h2⟩
      have hbk : ∃ cur, w.heap[e.b]? = some (.cells cur 36 (0, 0)) := by
        rcases h1.2 with ⟨h3, _⟩ | ⟨g', cap, cur, h3, _, h5, _⟩
        · simp at h3
        · simp at h3; rw [h3.1]; exact ⟨_, h5⟩
      obtain ⟨cur, hbk⟩ := hbk
      refine set2 _ _ _ _ _ _ _ (blk_ne hbk hg (by decide)) ?_
      refine own_keep (own_keep (own_keep h1 k3 (by simp)) kx (by simp)) k4 (fun b hb => ?_)
      simp [Value.ownBlock] at hb
      subst hb
      exact rowT _ _ _ hbk (by decide)
    · simp at he; subst he
      refine ⟨?_, hR _ hb3⟩
      simp only [hml]
      refine set2 _ _ _ _ _ _ _ (by have := blk_lt hg; omega) ?_
      refine own_keep (own_keep o3 kx (by simp)) k4 (fun b hb hm => ?_)
      simp [Value.ownBlock] at hb
      subst hb
      obtain ⟨cur, hc⟩ := hT _ hm
      have := blk_lt hc
      omega
  · rw [List.map_append, List.nodup_append]
    refine ⟨h.dif, by simp, ?_⟩
    intro a ha b hb hab
    simp at hb
    subst hb hab
    obtain ⟨e, he, rfl⟩ := List.mem_map.1 ha
    obtain ⟨h1, _⟩ := h.row e he
    rcases h1.2 with ⟨h3, _⟩ | ⟨g', cap, cur, h3, _, h5, _⟩
    · simp at h3
    · simp at h3
      have := blk_lt h5
      omega
  · intro o ho'
    rw [List.map_append, List.mem_append] at ho'
    rcases ho' with ho' | ho'
    · exact h.ok o ho'
    · simp [RE.th] at ho'; subst ho'; exact ⟨hk, hk', by simp only; omega⟩
  · refine ChgR.set (ChgR.set ?_ _ _ (.inl h.own)) _ _ (.inl h.own)
    exact ((ChgR.of0 k3).same (ChgR.of0 kx)).same (ChgR.of k4 hRt)
set_option maxHeartbeats 4000000 in
theorem ralloc_calls {w : World} {R : Nat → Prop} {g size : Nat} {es : List RE} (h : IsRf w R g size es) (k : Int) (A : Option Addr) (c : Nat) (xs : List Int) (hv : Src w 1 (.slice A xs.length c) xs.length (nums .u64 xs)) (hk : 1 ≤ k) (hk' : k ≤ 9) (hm : xs.length ≤ 255) (hf : tot (es.map RE.th) + xs.length < size)
    (hR : ∀ b, w.heap.size ≤ b → R b) :
    Calls Try.prog 13 #[.pointer (some ⟨g, 0, none⟩), .int .i64 k, .slice A xs.length c] w fun e w' =>
      e = .returned (.tuple #[.int .u64 ((tot (es.map RE.th) : Int) * 8 + 1), .int .i64 0]) ∧ (∃ b c, IsRf w' R g size (es ++ [⟨tot (es.map RE.th), k, b, c, xs⟩])) ∧ ChgR R w w' := by
  obtain ⟨A', c', c0, c1, c2, hlc, hcm, _⟩ := rf_cell h
  have hhi := h.hi
  have hle := h.le
  generalize hu : tot (es.map RE.th) = u at *
  generalize hml : xs.length = m at *
  have t1 : decide (k < 1) = false := by simp; omega
  have t2 : decide (k > 9) = false := by simp; omega
  have t3 : decide ((m : Int) > 255) = false := by simp; omega
  have t4 : decide ((size : Int) - (u : Int) < (m : Int) + 1) = false := by simp; omega
  have s1 : IntKind.i64.wrap ((m : Int) + 1) = (m : Int) + 1 := IntWalk.i64_in _ (by omega)
  have s2 : IntKind.i64.wrap ((size : Int) - (u : Int)) = (size : Int) - (u : Int) := IntWalk.i64_in _ (by omega)
  go_enter Try.func13, Try.ntmps13
  go_wp2
  go_quiet (fail)
  go_wp2_with fail
  refine (rof_yes 1 u _ (.inl rfl) (by omega) (by omega)).mono ?_
  rintro e w1 ⟨rfl, rfl⟩
  go_wp2_with fail
  obtain ⟨At, ct, hg, ho, hRt⟩ := h.top
  rw [hu] at hg
  obtain ⟨rfl, rfl⟩ : At = A' ∧ ct = c' := by
    rw [blk_cell hg] at c2
    simp at c2
    exact c2
  have hb1 : ∀ b, b ∈ ob (.slice At es.length ct) → b ≠ g := fun b hb hbg => by
    rcases ho.2 with ⟨h1, _⟩ | ⟨g', cap, cur, h1, _, h3, _⟩
    · rw [h1] at hb; have := mem_ob.1 hb; simp [Value.ownBlock] at this
    · rw [h1] at hb; have := mem_ob.1 hb; simp [Value.ownBlock] at this
      subst this; exact blk_ne h3 hg (by decide) hbg
  have D : Chg [] w (w.drewN nq) := (Chg.refl _ _).draw _
  have c1' : (w.drewN nq).cell? ⟨g, 1, none⟩ = some (.int .i64 (u : Int)) := c1
  have c2' : (w.drewN nq).cell? ⟨g, 2, none⟩ = some (.slice At es.length ct) := c2
  have f2' : (w.drewN nq).frozen? ⟨g, 2, none⟩ = false := blk_frozen (w := w.drewN nq) hg 2
  have f1' : (w.drewN nq).frozen? ⟨g, 1, none⟩ = false := blk_frozen (w := w.drewN nq) hg 1
  have HS : ∀ W, Chg [] (w.drewN nq) W → Src W 1 (.slice A m c) m (nums .u64 xs) := fun W k => hv.grow (D.same k)
  have HO : ∀ W, Chg [] (w.drewN nq) W → W.ownsRow 0 59 3 (.slice At es.length ct) es.length (es.flatMap RE.cells) := fun W k => own_keep ho (D.same k) (by simp)
  have hnb : es.length ≤ 65536 := by
    have key : ∀ l : List RE, l.length ≤ tot (l.map RE.th) := by
      intro l
      induction l with
      | nil => exact Nat.zero_le _
      | cons a r ih => rw [List.map_cons, tot_cons, List.length_cons]; omega
    have := key es; omega
  have hsz : Hid ((w.drewN nq).heap.size = w.heap.size) := Lib.hid rfl
  clear hv c0 c1 c2
  generalize w.drewN nq = w2 at *
  have KEEP : ∀ W, Chg [] w2 W → (W.cell? ⟨g, 1, none⟩ = some (.int .i64 (u : Int)) ∧ W.cell? ⟨g, 2, none⟩ = some (.slice At es.length ct) ∧ W.frozen? ⟨g, 2, none⟩ = false ∧ W.frozen? ⟨g, 1, none⟩ = false) := fun W k =>
    ⟨k.cell c1' (by simp), k.cell c2' (by simp), k.frozen c2' f2' (by simp), k.frozen c1' f1' (by simp)⟩
  have KEEP2 : ∀ W W', Chg [] w2 W → Chg (ob (.slice At es.length ct)) W W' → (W'.cell? ⟨g, 1, none⟩ = some (.int .i64 (u : Int)) ∧ W'.cell? ⟨g, 2, none⟩ = some (.slice At es.length ct) ∧ W'.frozen? ⟨g, 2, none⟩ = false ∧ W'.frozen? ⟨g, 1, none⟩ = false) := fun W W' k k2 => by
    obtain ⟨h1, h2, h3, h4⟩ := KEEP W k
    exact ⟨k2.cell h1 (fun hm => hb1 _ hm rfl), k2.cell h2 (fun hm => hb1 _ hm rfl), k2.frozen h2 h3 (fun hm => hb1 _ hm rfl), k2.frozen h1 h4 (fun hm => hb1 _ hm rfl)⟩
  have n1 : ∀ o, (w2.alloc o).cell? ⟨g, 1, none⟩ = some (.int .i64 (u : Int)) := fun o => (KEEP _ ((Chg.refl [] w2).alloc o)).1
  have n2 : ∀ o, (w2.alloc o).cell? ⟨g, 2, none⟩ = some (.slice At es.length ct) := fun o => (KEEP _ ((Chg.refl [] w2).alloc o)).2.1
  go_region_law (first
      | (refine app_step_lit (W := w2.drew) (by rfl) (.tmp 52) (.tmp 53) 32 (by rfl) 36 (.int .u64 0) 1 8 underWs infoW rfl (by decide) (by decide) (by rfl) _ m (nums .u64 xs) (by rfl) (HS _ (Chg.refl _ _).drew) one_nums (by omega) ?_; intro b3 c3 w3 ho3 hb3 hc3; obtain ⟨z1, z2, z3, z3'⟩ := KEEP w3 ((Chg.refl [] w2).drew.same hc3); have z5 : ∀ o, (w3.alloc o).cell? ⟨g, 2, none⟩ = some (.slice At es.length ct) := fun o => (KEEP _ (((Chg.refl [] w2).drew.same hc3).alloc o)).2.1)
      | (refine app_step (W := w3.alloc (.cells #[.int .i64 (u : Int), .int .i64 k, .slice (some ⟨b3, 0, none⟩) m c3] 59)) (by rfl) (.tmp 46) (.tmp 56) 43 (by rfl) 0 59 _ 3 40 underTs infoT rfl (by decide) (by decide) (.slice At es.length ct) es.length (es.flatMap RE.cells) (by rfl) (HO _ (((Chg.refl [] w2).drew.same hc3).alloc _)) _ 1 [.int .i64 (u : Int), .int .i64 k, .slice (some ⟨b3, 0, none⟩) m c3] (by rfl) (src_new _ _ _ _ _ _ (by rfl) rfl) (by simp [Value.oneCell']) (Nat.zero_le _) (by omega) ?_; intro B4 c4 w4 ho4 hc4 hb4; obtain ⟨z1, z2, z3, z3'⟩ := KEEP2 _ w4 (((Chg.refl [] w2).drew.same hc3).alloc _) hc4))
  all_goals
    have HK3 := Lib.hid hc3
    have HK4 := Lib.hid hc4
    have HO3 := Lib.hid ho3
    have HO4 := Lib.hid ho4
    have HB4 := Lib.hid hb4
    clear hc3 hc4 ho3 ho4 hb4
    go_wp2_with fail
    go_ret2
  all_goals
    have hw2 := hsz.out
    obtain ⟨f1, f2⟩ := ralloc_fin h hu hml hm hk hk' hf hR hg ho hRt (D.drew.same HK3.out) HO3.out (by simp at hb3; omega) ((Chg.refl [] w3).alloc _) HK4.out HO4.out HB4.out ((u : Int) + m + 1) rfl
    exact ⟨rfl, ⟨_, _, f1⟩, f2⟩
end Go.Proofs.Ytoofnpecofcjjaa.Rf

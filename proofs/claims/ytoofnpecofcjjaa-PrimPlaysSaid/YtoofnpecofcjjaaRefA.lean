/- The arena of the reference of layer 2 in memory, and plain lemmas; each states its conditions. -/
import Derived.Test.YtoofnpecofcjjaaArenaC6
import Derived.Test.YtoofnpecofcjjaaRefW
import Derived.Test.YtoofnpecofcjjaaReader
namespace Go.Proofs.Ytoofnpecofcjjaa.Rf
open Go Go.RowKit Go.Proofs.Ytoofnpecofcjjaa.Heap Go.Proofs.Ytoofnpecofcjjaa.Word Go.Proofs.Ytoofnpecofcjjaa.Own Go.Proofs.Ytoofnpecofcjjaa.Ar
/-- Of the blocks that were there, those that R lets alone may have changed; the streams are as they were. -/
structure ChgR (R : Nat → Prop) (w w' : World) : Prop where
  os : w'.os = w.os
  tape : w'.tape = w.tape
  output : w'.output = w.output
  size : w.heap.size ≤ w'.heap.size
  block : ∀ k, k < w.heap.size → ¬ R k → w'.heap[k]? = w.heap[k]?
theorem ChgR.refl (R : Nat → Prop) (w : World) : ChgR R w w := ⟨rfl, rfl, rfl, Nat.le_refl _, fun _ _ _ => rfl⟩
theorem ChgR.same {R : Nat → Prop} {w w1 w2 : World} (h : ChgR R w w1) (k : ChgR R w1 w2) : ChgR R w w2 :=
  ⟨k.os.trans h.os, k.tape.trans h.tape, k.output.trans h.output, Nat.le_trans h.size k.size, fun b hb hn => (k.block b (Nat.lt_of_lt_of_le hb h.size) hn).trans (h.block b hb hn)⟩
theorem ChgR.of {R : Nat → Prop} {F : List Nat} {w w' : World} (h : Chg F w w') (hF : ∀ b, b ∈ F → R b) : ChgR R w w' := ⟨h.os, h.tape, h.output, h.size, fun b hb hn => h.block b hb (fun hm => hn (hF b hm))⟩
theorem ChgR.of0 {R : Nat → Prop} {w w' : World} (h : Chg [] w w') : ChgR R w w' := ChgR.of h (by simp)
theorem ChgR.mono {R S : Nat → Prop} {w w' : World} (h : ChgR R w w') (hs : ∀ b, R b → S b) : ChgR S w w' := ⟨h.os, h.tape, h.output, h.size, fun b hb hn => h.block b hb (fun hr => hn (hs b hr))⟩
theorem ChgR.at {R : Nat → Prop} {w w' : World} (h : ChgR R w w') {k : Nat} {o : Obj} (hk : w.heap[k]? = some o) (hn : ¬ R k) : w'.heap[k]? = some o := (h.block k (blk_lt hk) hn).trans hk
theorem ChgR.cell {R : Nat → Prop} {w w' : World} (h : ChgR R w w') {p : Addr} {u : Value} (hq : w.cell? p = some u) (hp : ¬ R p.block) : w'.cell? p = some u :=
  (World.cell?_of_block (h.block p.block (World.block_lt_of_cell? _ _ hq) hp)).trans hq
theorem ChgR.past {R : Nat → Prop} {w w' : World} (h : ChgR R w w') (B : Nat) (hB : ∀ b, R b → B ≤ b) (hw : B ≤ w.heap.size) : Below B w w' := ⟨h.os, h.tape, h.output, h.size, fun b hb => h.block b (by omega) (fun hr => by have := hB b hr; omega)⟩
theorem ChgR.set {R : Nat → Prop} {w w1 : World} (h : ChgR R w w1) (p : Addr) (v : Value) (hp : R p.block ∨ w.heap.size ≤ p.block) : ChgR R w (w1.setCell p v) := by
  refine ⟨h.os, h.tape, h.output, by simpa using h.size, fun k hk hn => ?_⟩
  have hne : k ≠ p.block := fun e => by
    subst e
    exact hp.elim hn (fun hle => Nat.lt_irrefl _ (Nat.lt_of_lt_of_le hk hle))
  rw [← h.block k hk hn]
  exact Below.heap_setCell _ _ _ _ hne
/-- a thing of the reference's arena: where, its kind, the block and room of its words, its words -/
structure RE where
  pos : Nat
  kind : Int
  b : Nat
  c : Nat
  xs : List Int
def RE.cells (e : RE) : List Value := [.int .i64 e.pos, .int .i64 e.kind, .slice (some ⟨e.b, 0, none⟩) e.xs.length e.c]
def RE.th (e : RE) : Thing := (e.kind, e.xs)
def okAt : Nat → List RE → Prop
  | _, [] => True
  | n, e :: r => e.pos = n ∧ okAt (n + e.xs.length + 1) r
/-- the reference's arena at block g, all of whose blocks R lets -/
structure IsRf (w : World) (R : Nat → Prop) (g size : Nat) (es : List RE) : Prop where
  top : ∃ A c, w.heap[g]? = some (.cells #[.int .i64 size, .int .i64 (tot (es.map RE.th) : Int), .slice A es.length c] 45 (0, 0)) ∧
    w.ownsRow 0 59 3 (.slice A es.length c) es.length (es.flatMap RE.cells) ∧ ∀ b, b ∈ ob (.slice A es.length c) → R b
  pos : okAt 0 es
  row : ∀ e ∈ es, w.ownsRow 0 36 1 (.slice (some ⟨e.b, 0, none⟩) e.xs.length e.c) e.xs.length (nums .u64 e.xs) ∧ R e.b
  dif : (es.map RE.b).Nodup
  ok : okT (es.map RE.th)
  lo : 1 ≤ size
  hi : size ≤ 65536
  le : tot (es.map RE.th) ≤ size
  own : R g
theorem okAt_lt {n : Nat} {es : List RE} (h : okAt n es) (i j : Nat) (a b : RE) (hi : es[i]? = some a) (hj : es[j]? = some b) (hij : i < j) : a.pos < b.pos ∧ n ≤ a.pos := by
  induction es generalizing n i j with
  | nil => simp at hi
  | cons e r ih =>
    obtain ⟨h1, h2⟩ := h
    cases j with
    | zero => omega
    | succ j =>
      have hj' : r[j]? = some b := by simpa using hj
      cases i with
      | zero =>
        have : e = a := by simpa using hi
        subst this
        refine ⟨?_, by omega⟩
        clear ih hi hj
        have key : ∀ (m : Nat) (r : List RE) (j : Nat), okAt m r → r[j]? = some b → m ≤ b.pos := by
          intro m r
          induction r generalizing m with
          | nil => intro j _ h; simp at h
          | cons x s ih2 =>
            intro j h3 h4
            cases j with
            | zero => have : x = b := by simpa using h4
                      subst this; exact Nat.le_of_eq h3.1.symm
            | succ j => have := ih2 _ j h3.2 (by simpa using h4); omega
        have := key _ r j h2 hj'
        omega
      | succ i =>
        have := ih h2 i j (by simpa using hi) hj' (by omega)
        exact ⟨this.1, by omega⟩
theorem okAt_pos {n : Nat} {es : List RE} (h : okAt n es) (a : RE) (ha : a ∈ es) : n ≤ a.pos ∧ a.pos + a.xs.length + 1 ≤ n + tot (es.map RE.th) := by
  induction es generalizing n with
  | nil => simp at ha
  | cons e r ih =>
    rw [List.map_cons, tot_cons]
    rcases List.mem_cons.1 ha with rfl | ha
    · exact ⟨Nat.le_of_eq h.1.symm, by have := h.1; simp only [RE.th]; omega⟩
    · have := ih h.2 ha
      have := h.1
      exact ⟨by omega, by simp only [RE.th] at *; omega⟩
theorem okAt_snoc {n : Nat} {es : List RE} (h : okAt n es) (e : RE) (he : e.pos = n + tot (es.map RE.th)) : okAt n (es ++ [e]) := by
  induction es generalizing n with
  | nil => exact ⟨by simpa [tot] using he, trivial⟩
  | cons a r ih =>
    refine ⟨h.1, ih h.2 ?_⟩
    rw [List.map_cons, tot_cons] at he
    simp only [RE.th] at *; omega
/-- what the plain list says of a place is what the entries say -/
theorem look_es {n : Nat} {es : List RE} (h : okAt n es) (a : Nat) : Ar.look (es.map RE.th) a = (es.find? (fun e => e.pos == n + a)).map RE.th := by
  induction es generalizing n a with
  | nil => rfl
  | cons e r ih =>
    rw [List.map_cons]
    simp only [Ar.look, List.find?_cons]
    have h1 := h.1
    by_cases h0 : a = 0
    · subst h0
      rw [if_pos rfl, show (e.pos == n + 0) = true by simp [h1]]; rfl
    · rw [if_neg h0, show (e.pos == n + a) = false by simp; omega]
      by_cases hle : a ≤ (RE.th e).2.length
      · rw [if_pos hle]
        have : r.find? (fun e => e.pos == n + a) = none := by
          rw [List.find?_eq_none]
          intro x hx
          have := (okAt_pos h.2 x hx).1
          simp only [RE.th] at hle
          simp; omega
        rw [this]; rfl
      · rw [if_neg hle, ih h.2]
        simp only [RE.th] at hle ⊢
        rw [show n + e.xs.length + 1 + (a - (e.xs.length + 1)) = n + a by omega]
theorem rf_cell {w : World} {R : Nat → Prop} {g size : Nat} {es : List RE} (h : IsRf w R g size es) : ∃ A c, w.cell? ⟨g, 0, none⟩ = some (.int .i64 size) ∧ w.cell? ⟨g, 1, none⟩ = some (.int .i64 (tot (es.map RE.th) : Int)) ∧
    w.cell? ⟨g, 2, none⟩ = some (.slice A es.length c) ∧ es.length ≤ c ∧ c ≤ maxLen ∧ (0 < es.length → ∃ tb, A = some ⟨tb, 0, none⟩ ∧ ∀ (j : Nat) (e : RE) (i : Nat) (u : Value), es[j]? = some e → e.cells[i]? = some u → w.cell? ⟨tb, j * 3 + i, none⟩ = some u) := by
  obtain ⟨A, c, hg, ho, _⟩ := h.top
  have hb : es.length ≤ c ∧ c ≤ maxLen := by
    rcases ho.2 with ⟨h1, h2⟩ | ⟨g', cap, cur, h1, _, _, h3, h4, _⟩
    · simp only [Value.slice.injEq] at h1
      exact ⟨by omega, by rw [h1.2.2]; exact Nat.zero_le _⟩
    · simp only [Value.slice.injEq] at h1
      rw [h1.2.2]; exact ⟨h3, h4⟩
  refine ⟨A, c, by rw [blk_cell hg]; rfl, by rw [blk_cell hg]; rfl, by rw [blk_cell hg]; rfl, hb.1, hb.2, fun hn => ?_⟩
  rcases ho.2 with ⟨h1, h2⟩ | ⟨g', cap, cur, h1, _, hgb, _, _, _, ht⟩
  · omega
  · simp only [Value.slice.injEq] at h1
    refine ⟨g', h1.1, fun j e i u hj hi => ?_⟩
    have hi3 : i < 3 := (List.getElem?_eq_some_iff.1 hi).1
    have hf := flat_get RE.cells 3 (fun _ => rfl) es j i e hj hi3
    rw [hi, ← ht] at hf
    rw [blk_cell hgb]
    rw [List.getElem?_take] at hf
    split at hf
    · simpa using hf
    · cases hf
end Go.Proofs.Ytoofnpecofcjjaa.Rf

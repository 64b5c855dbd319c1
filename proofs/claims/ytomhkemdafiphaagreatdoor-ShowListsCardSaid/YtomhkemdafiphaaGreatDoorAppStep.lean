/- Plain lemmas about blocks of memory, and what a call may have changed; no conditions beyond those each states. -/
import Derived.Test.YtomhkemdafiphaaGreatDoorProg
import Derived.Below
import Derived.Deep.Draws
import Derived.Deep.AppendLies
import Derived.Maps.AppendAt
import Derived.OwnWalk
import Derived.Laws.BytesArg
import Derived.Laws.MakeOwn
import Derived.Laws.OwnMore
import Derived.Deep.OwnRows
import Derived.Tactics
import Derived.Lib.ConvBytes
import Derived.Laws.Slices
import Derived.WalkKit
import Derived.KernelRfl
import Derived.RowKit3
import Derived.Deep.LoopGhost
import Derived.Deep.QuietTactic
import Derived.BigQuiet
import Derived.WideLaws
import Derived.Deep.DeepCutAuto
import Derived.Deep.CutBlock
import Derived.Deep.RegionHeld3
import Derived.Laws.Rows
import Derived.Lib.AppendStr
import Derived.ArgAppend
import Derived.Laws.IdiomCopy
import Derived.OrdersHeld
import Derived.Laws.BitsLemmas
import Derived.RowKit
import Derived.Lib.Hide
import Derived.StillTailTactics
namespace Go.Proofs.YtomhkemdafiphaaGreatDoor.Heap
open Go Go.RowKit
def nums (k : IntKind) (xs : List Int) : List Value := xs.map fun x => .int k x
def bools (xs : List Bool) : List Value := xs.map fun x => .bool x
theorem blk_lt {w : World} {g : Nat} {o : Obj} (h : w.heap[g]? = some o) : g < w.heap.size := (Array.getElem?_eq_some_iff.1 h).1
theorem blk_cell {w : World} {g : Nat} {t : TypeId} {cs : Array Value} (h : w.heap[g]? = some (.cells cs t (0, 0))) (i : Nat) : w.cell? ⟨g, i, none⟩ = cs[i]? := cell_of_row w g i cs t (0, 0) h
theorem blk_frozen {w : World} {g : Nat} {t : TypeId} {cs : Array Value} (h : w.heap[g]? = some (.cells cs t (0, 0))) (i : Nat) : w.frozen? ⟨g, i, none⟩ = false := by simp [World.frozen?, h]
theorem blk_ne {w : World} {g g' : Nat} {t t' : TypeId} {cs cs' : Array Value} (h : w.heap[g]? = some (.cells cs t (0, 0))) (h' : w.heap[g']? = some (.cells cs' t' (0, 0))) (hne : t ≠ t') : g ≠ g' := by
  rintro rfl; rw [h] at h'; simp at h'; exact hne h'.2
theorem blk_set {w : World} {g : Nat} {t : TypeId} {cs : Array Value} (h : w.heap[g]? = some (.cells cs t (0, 0))) (i : Nat) (u : Value) : (w.setCell ⟨g, i, none⟩ u).heap[g]? = some (.cells (cs.setIfInBounds i u) t (0, 0)) := by
  simp [World.setCell, Array.getElem?_modify, h]
theorem blk_far {w : World} {g : Nat} {o : Obj} (h : w.heap[g]? = some o) {p : Addr} (hp : g ≠ p.block) (u : Value) : (w.setCell p u).heap[g]? = some o := (Below.heap_setCell w p u g hp).trans h
/-- Of the blocks that were there, those in F alone may have changed; the streams are as they were. -/
structure Chg (F : List Nat) (w w' : World) : Prop where
  os : w'.os = w.os
  tape : w'.tape = w.tape
  output : w'.output = w.output
  size : w.heap.size ≤ w'.heap.size
  block : ∀ k, k < w.heap.size → k ∉ F → w'.heap[k]? = w.heap[k]?
theorem Chg.refl (F : List Nat) (w : World) : Chg F w w := ⟨rfl, rfl, rfl, Nat.le_refl _, fun _ _ _ => rfl⟩
theorem Chg.of_below {F : List Nat} {w w' : World} (h : Below w.heap.size w w') : Chg F w w' := ⟨h.os, h.tape, h.output, h.size, fun k hk _ => h.block k hk⟩
theorem Chg.mono {F G : List Nat} {w w' : World} (h : Chg F w w') (hs : ∀ k, k ∈ F → k ∈ G) : Chg G w w' := ⟨h.os, h.tape, h.output, h.size, fun k hk hn => h.block k hk (fun hf => hn (hs k hf))⟩
theorem Chg.trans {F G : List Nat} {w w1 w2 : World} (h : Chg F w w1) (k : Chg G w1 w2) (hs : ∀ b, b ∈ G → b ∈ F ∨ w.heap.size ≤ b) : Chg F w w2 :=
  ⟨k.os.trans h.os, k.tape.trans h.tape, k.output.trans h.output, Nat.le_trans h.size k.size, fun b hb hn =>
    (k.block b (Nat.lt_of_lt_of_le hb h.size) (fun hg => (hs b hg).elim hn (fun hle => Nat.lt_irrefl _ (Nat.lt_of_lt_of_le hb hle)))).trans (h.block b hb hn)⟩
theorem Chg.same {F : List Nat} {w w1 w2 : World} (h : Chg F w w1) (k : Chg F w1 w2) : Chg F w w2 := h.trans k (fun _ hb => .inl hb)
theorem Chg.sub {F : List Nat} {w w1 w2 : World} (h : Chg F w w1) (k : Chg [] w1 w2) : Chg F w w2 := h.trans k (fun _ hb => by cases hb)
theorem Chg.draw {F : List Nat} {w w1 : World} (h : Chg F w w1) (n : Nat) : Chg F w (w1.drewN n) := ⟨h.os, h.tape, h.output, h.size, h.block⟩
theorem Chg.drew {F : List Nat} {w w1 : World} (h : Chg F w w1) : Chg F w w1.drew := ⟨h.os, h.tape, h.output, h.size, h.block⟩
theorem Chg.alloc {F : List Nat} {w w1 : World} (h : Chg F w w1) (o : Obj) : Chg F w (w1.alloc o) :=
  h.sub (Chg.of_below ((Below.refl _ _).alloc (Nat.le_refl _) o))
theorem Chg.set {F : List Nat} {w w1 : World} (h : Chg F w w1) (p : Addr) (v : Value) (hp : p.block ∈ F ∨ w.heap.size ≤ p.block) : Chg F w (w1.setCell p v) := by
  refine ⟨h.os, h.tape, h.output, by simpa using h.size, fun k hk hn => ?_⟩
  have hne : k ≠ p.block := fun e => by
    subst e
    exact hp.elim hn (fun hle => Nat.lt_irrefl _ (Nat.lt_of_lt_of_le hk hle))
  rw [← h.block k hk hn]
  exact Below.heap_setCell _ _ _ _ hne
theorem Chg.below {w w' : World} (h : Chg [] w w') : Below w.heap.size w w' := ⟨h.os, h.tape, h.output, h.size, fun k hk => h.block k hk (by simp)⟩
theorem Chg.at {F : List Nat} {w w' : World} (h : Chg F w w') {k : Nat} {o : Obj} (hk : w.heap[k]? = some o) (hn : k ∉ F) : w'.heap[k]? = some o :=
  (h.block k (blk_lt hk) hn).trans hk
theorem nums_get (k : IntKind) (xs : List Int) (i : Nat) : (nums k xs).toArray[i]? = xs[i]?.map (fun x => Value.int k x) := by simp [nums]
theorem bools_get (xs : List Bool) (i : Nat) : (bools xs).toArray[i]? = xs[i]?.map (fun x => Value.bool x) := by simp [bools]
theorem blk_new {w : World} {o : Obj} {k : Nat} (hk : k = w.heap.size) : (w.alloc o).heap[k]? = some o := by subst hk; exact heap_alloc_new w o
theorem blk_old {w : World} {o o' : Obj} {k : Nat} (hk : k < w.heap.size) (h : w.heap[k]? = some o) : (w.alloc o').heap[k]? = some o := (heap_alloc_old w o' hk).trans h
theorem below_draw {B : Nat} {w w' : World} (h : Below B w w') (n : Nat) : Below B w (w'.drewN n) := ⟨h.os, h.tape, h.output, h.size, h.block⟩
theorem Chg.cell {F : List Nat} {w w' : World} (h : Chg F w w') {p : Addr} {u : Value} (hq : w.cell? p = some u) (hp : p.block ∉ F) : w'.cell? p = some u :=
  (World.cell?_of_block (h.block p.block (World.block_lt_of_cell? _ _ hq) hp)).trans hq
theorem Chg.frozen {F : List Nat} {w w' : World} (h : Chg F w w') {p : Addr} {u : Value} {b : Bool} (hq : w.cell? p = some u) (hf : w.frozen? p = b) (hp : p.block ∉ F) : w'.frozen? p = b :=
  (World.frozen?_of_block (h.block p.block (World.block_lt_of_cell? _ _ hq) hp)).trans hf
end Go.Proofs.YtomhkemdafiphaaGreatDoor.Heap
/- Lemmas on rows of the call's own, append among them; each states its conditions. -/
namespace Go.Proofs.YtomhkemdafiphaaGreatDoor.Own
open Go Go.RowKit Go.Proofs.YtomhkemdafiphaaGreatDoor.Heap
/-- the block of a slice, as a list -/
def ob (v : Value) : List Nat := match v.ownBlock with | some b => [b] | none => []
theorem mem_ob {v : Value} {b : Nat} : b ∈ ob v ↔ v.ownBlock = some b := by unfold ob; cases v.ownBlock <;> simp [eq_comm]
theorem chg_grown {w w' : World} {v : Value} (h : w.grownBy w' v.ownBlock) : Chg (ob v) w w' :=
  ⟨h.os, h.tape, h.output, h.size, fun k hk hn => h.block k hk (fun e => hn (mem_ob.2 e.symm))⟩
theorem own_keep {w w' : World} {base : Nat} {e : TypeId} {size n : Nat} {v : Value} {xs : List Value} {F : List Nat} (h : w.ownsRow base e size v n xs) (k : Chg F w w') (hF : ∀ b, v.ownBlock = some b → b ∉ F) : w'.ownsRow base e size v n xs := by
  refine ⟨h.1, h.2.imp id ?_⟩
  rintro ⟨g, cap, cur, rfl, hb, hg, hr⟩
  exact ⟨g, cap, cur, rfl, hb, k.at hg (hF g rfl), hr⟩
/-- the value v (of a slice) reads as cells ys: nil lies among what may be -/
def Src (w : World) (size : Nat) (v : Value) (m : Nat) (ys : List Value) : Prop :=
  ys.length = m * size ∧ ∃ A c, v = .slice A m c ∧ (0 < m → ∃ ad, A = some ad ∧ ∀ j u, ys[j]? = some u → w.cell? (ad.add j) = some u)
theorem own_slice {w : World} {base : Nat} {e : TypeId} {size n : Nat} {v : Value} {xs : List Value} (h : w.ownsRow base e size v n xs) : ∃ B c, v = .slice B n c := by
  rcases h.2 with ⟨rfl, rfl⟩ | ⟨g, cap, cur, rfl, _⟩
  · exact ⟨_, _, rfl⟩
  · exact ⟨_, _, rfl⟩
/-- append onto a row of the call's own, whatever the source is -/
theorem app_run {P : Program} {W : World} (base : Nat) (t e : TypeId) (z : Value) (size bytes : Nat) (ht : P.underlying t = some (.slice e)) (hinfo : (P.info? e).map (fun i => (i.zero, i.size, i.bytes)) = some (some z, size, bytes))
    (hzs : z.cells.size = size) (hsz : 0 < size) (hb0 : 0 < bytes) (v : Value) (n : Nat) (xs : List Value) (HO : W.ownsRow base e size v n xs) (u : Value) (m : Nat) (ys : List Value) (HR : Src W size u m ys) (h1 : ∀ u ∈ ys, u.oneCell' = true)
    (hbase : base ≤ W.heap.size) (hl : (n + m) * bytes ≤ 140737488355328) (ty : TypeId) :
    ∃ v1 w1, (Builtin.append_ #[t, t] ty #[v, u]).run P W = .ok v1 w1 ∧ w1.ownsRow base e size v1 (n + m) (xs ++ ys) ∧ Chg (ob v) W w1 ∧ (v1.ownBlock = v.ownBlock ∨ v1.ownBlock = some W.heap.size) := by
  obtain ⟨i0, hi, hz, hs, hb⟩ := info_parts hinfo
  obtain ⟨hlen, A, c, rfl, hc⟩ := HR
  have hm : n + m ≤ 140737488355328 := Nat.le_trans (Nat.le_mul_of_pos_right _ hb0) hl
  rcases A with _ | ad
  · have h0 : m = 0 := by
      rcases Nat.eq_zero_or_pos m with h0 | h0
      · exact h0
      · obtain ⟨ad, h, _⟩ := hc h0
        cases h
    subst h0
    have hy : ys = [] := List.eq_nil_of_length_eq_zero (by simpa using hlen)
    subst hy
    refine ⟨v, W, ?_, by simpa using HO, Chg.refl _ _, .inl rfl⟩
    rcases HO.2 with ⟨rfl, hn⟩ | ⟨g, cap, cur, rfl, _, _, hnc, _⟩
    · simp [Builtin.append_, run_underlying ht, sizeOf, typeInfo, hi, Builtin.lenOf, Builtin.firstCells]
    · simp [Builtin.append_, run_underlying ht, sizeOf, typeInfo, hi, Builtin.lenOf, Builtin.firstCells, hnc, storeCells]
  · by_cases h0 : m = 0
    · subst h0
      have hy : ys = [] := List.eq_nil_of_length_eq_zero (by simpa using hlen)
      subst hy
      obtain ⟨v1, w1, hr, h2, h3, _, h5⟩ := run_append_own_at (P := P) W base t ty e i0 z size bytes ht hi hz hs hb hzs hsz v n xs HO ad 0 c [] (by simp) (by intro j u hu; simp at hu) (by intro u hu; cases hu) (by simp only [maxLen]; omega) hl hbase
      exact ⟨v1, w1, hr, h2, chg_grown h3, h5⟩
    · obtain ⟨ad', h', hcells⟩ := hc (by omega)
      injection h' with h'
      subst h'
      obtain ⟨v1, w1, hr, h2, h3, _, h5⟩ := run_append_own_at (P := P) W base t ty e i0 z size bytes ht hi hz hs hb hzs hsz v n xs HO ad m c ys hlen hcells h1 (by simp only [maxLen]; omega) hl hbase
      exact ⟨v1, w1, hr, h2, chg_grown h3, h5⟩
theorem app {P : Program} {W : World} {ops : Array Oper} {rest : List Oper} {o : Oper} {a : Act} {Q : Exit → Act → World → Prop} (hgd : o.guard = none) (s x : Operand) (t : TypeId) (ho : o.op = .call { callee := .builtin .append, args := #[s, x], argTypes := #[t, t] })
    (base : Nat) (e : TypeId) (z : Value) (size bytes : Nat) (ht : P.underlying t = some (.slice e)) (hinfo : (P.info? e).map (fun i => (i.zero, i.size, i.bytes)) = some (some z, size, bytes))
    (hzs : z.cells.size = size) (hsz : 0 < size) (hb0 : 0 < bytes) (v : Value) (n : Nat) (xs : List Value) (hs : a.eval s = v) (HO : W.ownsRow base e size v n xs) (u : Value) (m : Nat) (ys : List Value) (hx : a.eval x = u) (HR : Src W size u m ys) (h1 : ∀ u ∈ ys, u.oneCell' = true)
    (hbase : base ≤ W.heap.size) (hl : (n + m) * bytes ≤ 140737488355328)
    (h : ∀ B c w1, w1.ownsRow base e size (.slice B (n + m) c) (n + m) (xs ++ ys) → Chg (ob v) W w1 → ((Value.slice B (n + m) c).ownBlock = v.ownBlock ∨ (Value.slice B (n + m) c).ownBlock = some W.heap.size) → wpList P ops Q rest (a.put o.dst (.slice B (n + m) c)) w1) :
    wpList P ops Q (o :: rest) a W := by
  obtain ⟨v1, w1, hr, h2, h3, h4⟩ := app_run (P := P) base t e z size bytes ht hinfo hzs hsz hb0 v n xs HO u m ys HR h1 hbase hl o.type
  refine wpList_plain hgd fun K hK => ?_
  unfold Oper.wp execOp
  simp only [ho, resolve, invoke, builtin, Sem.run_bind, Sem.run_pure, Result.andThen_ok, List.map_toArray, List.map_cons, List.map_nil, hs, hx, hr]
  obtain ⟨B, c, rfl⟩ := own_slice h2
  exact hK _ _ (h B c w1 h2 h3 h4)
theorem Src.nil (w : World) (size : Nat) (A : Option Addr) (c : Nat) : Src w size (.slice A 0 c) 0 [] := ⟨by simp, A, c, rfl, fun h => absurd h (Nat.lt_irrefl 0)⟩
theorem Src.own {w : World} {base : Nat} {e : TypeId} {size n : Nat} {v : Value} {xs : List Value} (h : w.ownsRow base e size v n xs) : Src w size v n xs := by
  refine ⟨h.1, ?_⟩
  rcases h.2 with ⟨rfl, rfl⟩ | ⟨g, cap, cur, rfl, _, hg, _⟩
  · exact ⟨_, _, rfl, fun h => absurd h (Nat.lt_irrefl 0)⟩
  · exact ⟨_, _, rfl, fun _ => ⟨_, rfl, h.cells rfl⟩⟩
theorem Src.keep {w w' : World} {size m : Nat} {v : Value} {ys : List Value} (h : Src w size v m ys) (hk : ∀ p u, w.cell? p = some u → w'.cell? p = some u) : Src w' size v m ys := by
  obtain ⟨h1, A, c, h2, h3⟩ := h
  exact ⟨h1, A, c, h2, fun hm => (h3 hm).imp fun ad hh => ⟨hh.1, fun j u hu => hk _ _ (hh.2 j u hu)⟩⟩
theorem Src.grow {w w' : World} {size m : Nat} {v : Value} {ys : List Value} (h : Src w size v m ys) (k : Chg [] w w') : Src w' size v m ys :=
  h.keep fun p u hu => (World.cell?_of_block (k.block p.block (World.block_lt_of_cell? _ _ hu) (by simp))).trans hu
/-- a slice of whole numbers that came in -/
def IsRow (k : IntKind) (w : World) (a : Option Addr) (len cap : Nat) (zs : List Int) : Prop :=
  (a = none ∧ len = 0 ∧ cap = 0 ∧ zs = []) ∨
  ∃ x, a = some x ∧ len ≤ cap ∧ cap ≤ maxLen ∧ zs.length = cap ∧ (∀ i, i < zs.length → w.cell? (x.add i) = some (.int k (zs.getD i 0))) ∧ ∀ n ∈ zs, (Lit.int k n).wf = true
theorem IsRow.src {k : IntKind} {w : World} {a : Option Addr} {len cap : Nat} {zs : List Int} (h : IsRow k w a len cap zs) (m : Nat) (hm : m ≤ len) (c : Nat) : Src w 1 (.slice a m c) m (nums k (zs.take m)) := by
  rcases h with ⟨rfl, rfl, rfl, rfl⟩ | ⟨x, rfl, hl, hc, hz, hcell, _⟩
  · obtain rfl : m = 0 := by omega
    exact Src.nil _ _ _ _
  · refine ⟨by simp [nums]; omega, _, _, rfl, fun h0 => ⟨x, rfl, fun j u hu => ?_⟩⟩
    simp only [nums, List.getElem?_map, List.getElem?_take, Option.map_eq_some_iff] at hu
    obtain ⟨y, hy, rfl⟩ := hu
    split at hy
    · rename_i hj
      have hjz : j < zs.length := by omega
      rw [hcell j hjz, List.getD_eq_getElem?_getD, hy]; rfl
    · cases hy
theorem one_nums {k : IntKind} {xs : List Int} : ∀ u ∈ nums k xs, u.oneCell' = true := by
  intro u hu; simp only [nums, List.mem_map] at hu; obtain ⟨q, _, rfl⟩ := hu; rfl
theorem own_lit0 (W : World) (e : TypeId) (size : Nat) : (W.alloc (.cells #[] e)).ownsRow W.heap.size e size (.slice (some ⟨W.heap.size, 0, none⟩) 0 0) 0 [] :=
  ⟨by simp, .inr ⟨W.heap.size, 0, #[], rfl, Nat.le_refl _, heap_alloc_new W _, Nat.le_refl _, Nat.zero_le _, by simp, by simp⟩⟩
/-- append([]T{}, u...) -/
theorem app_lit {P : Program} {W : World} {ops : Array Oper} {rest : List Oper} {o : Oper} {a : Act} {Q : Exit → Act → World → Prop} (hgd : o.guard = none) (s x : Operand) (t : TypeId) (ho : o.op = .call { callee := .builtin .append, args := #[s, x], argTypes := #[t, t] })
    (e : TypeId) (z : Value) (size bytes : Nat) (ht : P.underlying t = some (.slice e)) (hinfo : (P.info? e).map (fun i => (i.zero, i.size, i.bytes)) = some (some z, size, bytes))
    (hzs : z.cells.size = size) (hsz : 0 < size) (hb0 : 0 < bytes) (hs : a.eval s = .slice (some ⟨W.heap.size, 0, none⟩) 0 0) (u : Value) (m : Nat) (ys : List Value) (hx : a.eval x = u) (HR : Src W size u m ys) (h1 : ∀ u ∈ ys, u.oneCell' = true)
    (hl : m * bytes ≤ 140737488355328)
    (h : ∀ B c w1, w1.ownsRow W.heap.size e size (.slice B m c) m ys → Chg [] W w1 → wpList P ops Q rest (a.put o.dst (.slice B m c)) w1) :
    wpList P ops Q (o :: rest) a (W.alloc (.cells #[] e)) := by
  refine app hgd s x t ho W.heap.size e z size bytes ht hinfo hzs hsz hb0 _ 0 [] hs (own_lit0 W e size) u m ys hx (HR.grow ((Chg.refl _ _).alloc _)) h1 (by simp) (by simpa using hl) ?_
  intro B c w1 ho hc _
  rw [Nat.zero_add] at ho ⊢
  refine h B c w1 (by simpa using ho) (((Chg.refl [] W).alloc _).trans hc ?_)
  intro b hb
  have := mem_ob.1 hb
  simp [Value.ownBlock] at this
  exact .inr (by omega)
theorem own_at {w : World} {base : Nat} {e : TypeId} {n : Nat} {v : Value} {xs : List Value} (h : w.ownsRow base e 1 v n xs) (hn : 0 < n) : ∃ g c, v = .slice (some ⟨g, 0, none⟩) n c ∧ base ≤ g ∧ g < w.heap.size ∧ n ≤ c ∧ c ≤ maxLen ∧
    ∀ j u, xs[j]? = some u → w.cell? ⟨g, j, none⟩ = some u ∧ w.frozen? ⟨g, j, none⟩ = false := by
  rcases h.2 with ⟨rfl, rfl⟩ | ⟨g, cap, cur, rfl, hb, hg, hnc, hc, hz, ht⟩
  · exact absurd hn (Nat.lt_irrefl 0)
  · refine ⟨g, cap, rfl, hb, blk_lt hg, hnc, hc, fun j u hu => ⟨?_, blk_frozen hg j⟩⟩
    rw [blk_cell hg, ← hu, ← ht, List.getElem?_take]
    have hj : j < xs.length := (List.getElem?_eq_some_iff.1 hu).1
    rw [h.1] at hj
    rw [if_pos hj]; simp
theorem own_set {w : World} {base : Nat} {e : TypeId} {n g c : Nat} {xs : List Value} (h : w.ownsRow base e 1 (.slice (some ⟨g, 0, none⟩) n c) n xs) (j : Nat) (u : Value) :
    (w.setCell ⟨g, j, none⟩ u).ownsRow base e 1 (.slice (some ⟨g, 0, none⟩) n c) n (xs.set j u) := by
  rcases h.2 with ⟨h1, _⟩ | ⟨g', cap, cur, h1, hb, hg, hnc, hc, hz, ht⟩
  · cases h1
  · cases h1
    refine ⟨by simpa using h.1, .inr ⟨g, c, cur.setIfInBounds j u, rfl, hb, blk_set hg _ _, hnc, hc, by simpa using hz, ?_⟩⟩
    rw [← ht]; simp [List.take_set]
theorem min_nat (a : Nat) (B : Int) (b : Nat) (hB : B = b) : ∃ m : Nat, (if B < (a : Int) then B else (a : Int)) = (m : Int) ∧ m ≤ a ∧ m ≤ b ∧ (m = a ∨ m = b) := by
  subst hB
  by_cases h : b < a
  · exact ⟨b, by rw [if_pos (by omega)], by omega, by omega, .inr rfl⟩
  · exact ⟨a, by rw [if_neg (by omega)], by omega, by omega, .inl rfl⟩
theorem Src.past {w w' : World} {F : List Nat} {size m : Nat} {v : Value} {ys : List Value} (h : Src w size v m ys) (k : Chg F w w') (hF : ∀ b, b ∈ F → w.heap.size ≤ b) : Src w' size v m ys :=
  h.keep fun p u hu => by
    have hlt := World.block_lt_of_cell? w p hu
    exact (World.cell?_of_block (k.block p.block hlt (fun hm => by have := hF _ hm; omega))).trans hu
theorem Src.at {w : World} {m c : Nat} {A : Option Addr} {ys : List Value} (h : Src w 1 (.slice A m c) m ys) (hm : 0 < m) : ∃ ad, A = some ad ∧ ∀ j u, ys[j]? = some u → w.cell? (ad.add j) = some u := by
  obtain ⟨_, A', c', hA, hcell⟩ := h
  cases hA
  exact hcell hm
theorem add_flat (b o j : Nat) : (⟨b, o, none⟩ : Addr).add j = ⟨b, o + j, none⟩ := by unfold Addr.add; split <;> simp_all
/-- where a slice that reads as something begins: a block, and a place in it -/
theorem Src.pl {w : World} {size m c : Nat} {A : Option Addr} {ys : List Value} (h : Src w size (.slice A m c) m ys) (hm : 0 < m) (hs : 0 < size) : ∃ b o, A = some ⟨b, o, none⟩ ∧ b < w.heap.size ∧ ∀ j u, ys[j]? = some u → w.cell? ⟨b, o + j, none⟩ = some u := by
  obtain ⟨hl, A', c', hA, hcell0⟩ := h
  cases hA
  obtain ⟨ad, hA2, hcell⟩ := hcell0 hm
  clear hcell0
  subst hA2
  have h0 : 0 < ys.length := by rw [hl]; exact Nat.mul_pos hm hs
  have hq := hcell 0 _ (List.getElem?_eq_getElem h0)
  obtain ⟨b, o, s⟩ := ad
  have hs : s = none := by simpa [Addr.add] using World.cell?_spot hq
  subst hs
  refine ⟨b, o, rfl, ?_, fun j u hu => by rw [← add_flat]; exact hcell j u hu⟩
  rw [add_flat] at hq
  exact World.block_lt_of_cell? _ _ hq
theorem src_new {W : World} (cs : List Value) (t : TypeId) (size n c k : Nat) (hn : cs.length = n * size) (hk : k = W.heap.size) : Src (W.alloc (.cells cs.toArray t)) size (.slice (some ⟨k, 0, none⟩) n c) n cs := by
  subst hk
  refine ⟨hn, _, _, rfl, fun _ => ⟨_, rfl, fun j u hu => ?_⟩⟩
  rw [add_flat, Nat.zero_add, blk_cell (blk_new rfl)]
  simpa using hu
theorem IsRow.past {k : IntKind} {w w' : World} {F : List Nat} {a : Option Addr} {len cap : Nat} {zs : List Int} (h : IsRow k w a len cap zs) (hc : Chg F w w') (hF : ∀ b, b ∈ F → w.heap.size ≤ b) : IsRow k w' a len cap zs := by
  rcases h with h | ⟨x, h1, h2, h3, h4, h5, h6⟩
  · exact .inl h
  · refine .inr ⟨x, h1, h2, h3, h4, fun i hi => ?_, h6⟩
    have hq := h5 i hi
    have hlt := World.block_lt_of_cell? _ _ hq
    exact (World.cell?_of_block (hc.block _ hlt (fun hm => by have := hF _ hm; omega))).trans hq
theorem Chg.new {F : List Nat} {w w' : World} (h : Chg F w w') (hF : ∀ b, b ∈ F → w.heap.size ≤ b) : Chg [] w w' :=
  ⟨h.os, h.tape, h.output, h.size, fun k hk _ => h.block k hk (fun hm => by have := hF k hm; omega)⟩
open Go
/-- 'max' and 'min' of two whole numbers -/
theorem max2_int (k k' : IntKind) (x y : Int) : Builtin.max2 (.int k x) (.int k' y) = pure (.int k (if x < y then y else x)) := by simp only [Builtin.max2, gt_iff_lt]
theorem min2_int (k k' : IntKind) (x y : Int) : Builtin.min2 (.int k x) (.int k' y) = pure (.int k (if y < x then y else x)) := by simp only [Builtin.min2]
theorem max_two (ats : Array TypeId) (ty : TypeId) (a b : Value) : Builtin.max_ ats ty #[a, b] = (Builtin.max2 a b >>= fun s => pure s) := by simp only [Builtin.max_, List.foldlM_cons, List.foldlM_nil]
theorem min_two (ats : Array TypeId) (ty : TypeId) (a b : Value) : Builtin.min_ ats ty #[a, b] = (Builtin.min2 a b >>= fun s => pure s) := by simp only [Builtin.min_, List.foldlM_cons, List.foldlM_nil]
end Go.Proofs.YtomhkemdafiphaaGreatDoor.Own
/- Appending at a step of a region that draws its order; each states its conditions. -/
namespace Go.Proofs.YtomhkemdafiphaaGreatDoor.Own
open Go Go.RowKit Go.Proofs.YtomhkemdafiphaaGreatDoor.Heap
/-- append at a step of a region that draws -/
theorem app_step {P : Program} {W : World} {ops : Array Oper} {o : Oper} {a : Act} {K : Act → World → Prop} {Q : Exit → Act → World → Prop} {E : Prop} (hgd : o.guard = none) (s x : Operand) (t : TypeId) (ho : o.op = .call { callee := .builtin .append, args := #[s, x], argTypes := #[t, t] })
    (base : Nat) (e : TypeId) (z : Value) (size bytes : Nat) (ht : P.underlying t = some (.slice e)) (hinfo : (P.info? e).map (fun i => (i.zero, i.size, i.bytes)) = some (some z, size, bytes))
    (hzs : z.cells.size = size) (hsz : 0 < size) (hb0 : 0 < bytes) (v : Value) (n : Nat) (xs : List Value) (hs : a.eval s = v) (HO : W.ownsRow base e size v n xs) (u : Value) (m : Nat) (ys : List Value) (hx : a.eval x = u) (HR : Src W size u m ys) (h1 : ∀ u ∈ ys, u.oneCell' = true)
    (hbase : base ≤ W.heap.size) (hl : (n + m) * bytes ≤ 140737488355328)
    (h : ∀ B c w1, w1.ownsRow base e size (.slice B (n + m) c) (n + m) (xs ++ ys) → Chg (ob v) W w1 → ((Value.slice B (n + m) c).ownBlock = v.ownBlock ∨ (Value.slice B (n + m) c).ownBlock = some W.heap.size) → K (a.put o.dst (.slice B (n + m) c)) w1) :
    if Region.wanted o (yielded ops a.tmps) = true then Oper.wp P o a W K Q else E := by
  have hw : Region.wanted o (yielded ops a.tmps) = true := by simp [Region.wanted, hgd]
  rw [if_pos hw]
  obtain ⟨v1, w1, hr, h2, h3, h4⟩ := app_run (P := P) base t e z size bytes ht hinfo hzs hsz hb0 v n xs HO u m ys HR h1 hbase hl o.type
  unfold Oper.wp execOp
  simp only [ho, resolve, invoke, builtin, Sem.run_bind, Sem.run_pure, Result.andThen_ok, List.map_toArray, List.map_cons, List.map_nil, hs, hx, hr]
  obtain ⟨B, c, rfl⟩ := own_slice h2
  exact h B c w1 h2 h3 h4
/-- append([]T{}, u...) at a step of a region that draws -/
theorem app_step_lit {P : Program} {W : World} {ops : Array Oper} {o : Oper} {a : Act} {K : Act → World → Prop} {Q : Exit → Act → World → Prop} {E : Prop} (hgd : o.guard = none) (s x : Operand) (t : TypeId) (ho : o.op = .call { callee := .builtin .append, args := #[s, x], argTypes := #[t, t] })
    (e : TypeId) (z : Value) (size bytes : Nat) (ht : P.underlying t = some (.slice e)) (hinfo : (P.info? e).map (fun i => (i.zero, i.size, i.bytes)) = some (some z, size, bytes))
    (hzs : z.cells.size = size) (hsz : 0 < size) (hb0 : 0 < bytes) (hs : a.eval s = .slice (some ⟨W.heap.size, 0, none⟩) 0 0) (u : Value) (m : Nat) (ys : List Value) (hx : a.eval x = u) (HR : Src W size u m ys) (h1 : ∀ u ∈ ys, u.oneCell' = true)
    (hl : m * bytes ≤ 140737488355328)
    (h : ∀ b c w1, w1.ownsRow 0 e size (.slice (some ⟨b, 0, none⟩) m c) m ys → W.heap.size ≤ b → Chg [] W w1 → K (a.put o.dst (.slice (some ⟨b, 0, none⟩) m c)) w1) :
    if Region.wanted o (yielded ops a.tmps) = true then Oper.wp P o a (W.alloc (.cells #[] e)) K Q else E := by
  refine app_step hgd s x t ho 0 e z size bytes ht hinfo hzs hsz hb0 _ 0 [] hs ⟨(own_lit0 W e size).1, ?_⟩ u m ys hx (HR.grow ((Chg.refl _ _).alloc _)) h1 (Nat.zero_le _) (by simpa using hl) ?_
  · rcases (own_lit0 W e size).2 with hh | ⟨g, c, cur, h1, h2, h3⟩
    · exact .inl hh
    · exact .inr ⟨g, c, cur, h1, Nat.zero_le _, h3⟩
  intro B c w1 ho hc hb
  rw [Nat.zero_add] at ho hb ⊢
  have hC : Chg [] W w1 := ((Chg.refl [] W).alloc _).trans hc (fun b hb => by
    have := mem_ob.1 hb
    simp [Value.ownBlock] at this
    exact .inr (by omega))
  rcases ho.2 with ⟨h2, h3⟩ | ⟨g, cap, cur, h2, _⟩
  · simp only [Value.slice.injEq] at h2
    rw [h2.1] at hb
    simp [Value.ownBlock] at hb
  · simp only [Value.slice.injEq] at h2
    rw [h2.1] at ho hb ⊢
    refine h g c w1 (by simpa using ho) ?_ hC
    simp [Value.ownBlock] at hb
    omega
theorem own_base {w : World} {base : Nat} {e : TypeId} {size n : Nat} {v : Value} {xs : List Value} (h : w.ownsRow base e size v n xs) : w.ownsRow 0 e size v n xs :=
  ⟨h.1, h.2.imp id (fun ⟨g, c, cur, h1, _, h3⟩ => ⟨g, c, cur, h1, Nat.zero_le _, h3⟩)⟩
end Go.Proofs.YtomhkemdafiphaaGreatDoor.Own

/- Plain lemmas about blocks of memory, and what a call may have changed; no conditions beyond those each states. -/
import Derived.Test.YthfbkhjcnfjmmaaDoorProg
import Derived.Below
import Derived.Deep.Draws
import Derived.Deep.AppendLies
import Derived.Maps.AppendAt
import Derived.OwnWalk
import Derived.Laws.BytesArg
import Derived.Laws.MakeOwn
import Derived.Laws.OwnMore
import Derived.Deep.OwnRows
import Derived.Tactics
import Derived.Lib.ConvBytes
import Derived.Laws.Slices
import Derived.WalkKit
import Derived.KernelRfl
import Derived.RowKit3
import Derived.Deep.LoopGhost
import Derived.Deep.QuietTactic
import Derived.BigQuiet
import Derived.WideLaws
import Derived.Deep.DeepCutAuto
import Derived.Deep.CutBlock
import Derived.Deep.RegionHeld3
import Derived.Laws.Rows
import Derived.Lib.AppendStr
import Derived.ArgAppend
import Derived.Laws.IdiomCopy
import Derived.OrdersHeld
import Derived.Laws.BitsLemmas
import Derived.RowKit
import Derived.Lib.Hide
import Derived.StillTailTactics
namespace Go.Proofs.YthfbkhjcnfjmmaaDoor.Heap
open Go Go.RowKit
def nums (k : IntKind) (xs : List Int) : List Value := xs.map fun x => .int k x
def bools (xs : List Bool) : List Value := xs.map fun x => .bool x
theorem blk_lt {w : World} {g : Nat} {o : Obj} (h : w.heap[g]? = some o) : g < w.heap.size := (Array.getElem?_eq_some_iff.1 h).1
theorem blk_cell {w : World} {g : Nat} {t : TypeId} {cs : Array Value} (h : w.heap[g]? = some (.cells cs t (0, 0))) (i : Nat) : w.cell? ⟨g, i, none⟩ = cs[i]? := cell_of_row w g i cs t (0, 0) h
theorem blk_frozen {w : World} {g : Nat} {t : TypeId} {cs : Array Value} (h : w.heap[g]? = some (.cells cs t (0, 0))) (i : Nat) : w.frozen? ⟨g, i, none⟩ = false := by simp [World.frozen?, h]
theorem blk_ne {w : World} {g g' : Nat} {t t' : TypeId} {cs cs' : Array Value} (h : w.heap[g]? = some (.cells cs t (0, 0))) (h' : w.heap[g']? = some (.cells cs' t' (0, 0))) (hne : t ≠ t') : g ≠ g' := by
  rintro rfl; rw [h] at h'; simp at h'; exact hne h'.2
theorem blk_set {w : World} {g : Nat} {t : TypeId} {cs : Array Value} (h : w.heap[g]? = some (.cells cs t (0, 0))) (i : Nat) (u : Value) : (w.setCell ⟨g, i, none⟩ u).heap[g]? = some (.cells (cs.setIfInBounds i u) t (0, 0)) := by
  simp [World.setCell, Array.getElem?_modify, h]
theorem blk_far {w : World} {g : Nat} {o : Obj} (h : w.heap[g]? = some o) {p : Addr} (hp : g ≠ p.block) (u : Value) : (w.setCell p u).heap[g]? = some o := (Below.heap_setCell w p u g hp).trans h
/-- Of the blocks that were there, those in F alone may have changed; the streams are as they were. -/
structure Chg (F : List Nat) (w w' : World) : Prop where
  os : w'.os = w.os
  tape : w'.tape = w.tape
  output : w'.output = w.output
  size : w.heap.size ≤ w'.heap.size
  block : ∀ k, k < w.heap.size → k ∉ F → w'.heap[k]? = w.heap[k]?
theorem Chg.refl (F : List Nat) (w : World) : Chg F w w := ⟨rfl, rfl, rfl, Nat.le_refl _, fun _ _ _ => rfl⟩
theorem Chg.of_below {F : List Nat} {w w' : World} (h : Below w.heap.size w w') : Chg F w w' := ⟨h.os, h.tape, h.output, h.size, fun k hk _ => h.block k hk⟩
theorem Chg.mono {F G : List Nat} {w w' : World} (h : Chg F w w') (hs : ∀ k, k ∈ F → k ∈ G) : Chg G w w' := ⟨h.os, h.tape, h.output, h.size, fun k hk hn => h.block k hk (fun hf => hn (hs k hf))⟩
theorem Chg.trans {F G : List Nat} {w w1 w2 : World} (h : Chg F w w1) (k : Chg G w1 w2) (hs : ∀ b, b ∈ G → b ∈ F ∨ w.heap.size ≤ b) : Chg F w w2 :=
  ⟨k.os.trans h.os, k.tape.trans h.tape, k.output.trans h.output, Nat.le_trans h.size k.size, fun b hb hn =>
    (k.block b (Nat.lt_of_lt_of_le hb h.size) (fun hg => (hs b hg).elim hn (fun hle => Nat.lt_irrefl _ (Nat.lt_of_lt_of_le hb hle)))).trans (h.block b hb hn)⟩
theorem Chg.same {F : List Nat} {w w1 w2 : World} (h : Chg F w w1) (k : Chg F w1 w2) : Chg F w w2 := h.trans k (fun _ hb => .inl hb)
theorem Chg.sub {F : List Nat} {w w1 w2 : World} (h : Chg F w w1) (k : Chg [] w1 w2) : Chg F w w2 := h.trans k (fun _ hb => by cases hb)
theorem Chg.draw {F : List Nat} {w w1 : World} (h : Chg F w w1) (n : Nat) : Chg F w (w1.drewN n) := ⟨h.os, h.tape, h.output, h.size, h.block⟩
theorem Chg.drew {F : List Nat} {w w1 : World} (h : Chg F w w1) : Chg F w w1.drew := ⟨h.os, h.tape, h.output, h.size, h.block⟩
theorem Chg.alloc {F : List Nat} {w w1 : World} (h : Chg F w w1) (o : Obj) : Chg F w (w1.alloc o) :=
  h.sub (Chg.of_below ((Below.refl _ _).alloc (Nat.le_refl _) o))
theorem Chg.set {F : List Nat} {w w1 : World} (h : Chg F w w1) (p : Addr) (v : Value) (hp : p.block ∈ F ∨ w.heap.size ≤ p.block) : Chg F w (w1.setCell p v) := by
  refine ⟨h.os, h.tape, h.output, by simpa using h.size, fun k hk hn => ?_⟩
  have hne : k ≠ p.block := fun e => by
    subst e
    exact hp.elim hn (fun hle => Nat.lt_irrefl _ (Nat.lt_of_lt_of_le hk hle))
  rw [← h.block k hk hn]
  exact Below.heap_setCell _ _ _ _ hne
theorem Chg.below {w w' : World} (h : Chg [] w w') : Below w.heap.size w w' := ⟨h.os, h.tape, h.output, h.size, fun k hk => h.block k hk (by simp)⟩
theorem Chg.at {F : List Nat} {w w' : World} (h : Chg F w w') {k : Nat} {o : Obj} (hk : w.heap[k]? = some o) (hn : k ∉ F) : w'.heap[k]? = some o :=
  (h.block k (blk_lt hk) hn).trans hk
theorem nums_get (k : IntKind) (xs : List Int) (i : Nat) : (nums k xs).toArray[i]? = xs[i]?.map (fun x => Value.int k x) := by simp [nums]
theorem bools_get (xs : List Bool) (i : Nat) : (bools xs).toArray[i]? = xs[i]?.map (fun x => Value.bool x) := by simp [bools]
theorem blk_new {w : World} {o : Obj} {k : Nat} (hk : k = w.heap.size) : (w.alloc o).heap[k]? = some o := by subst hk; exact heap_alloc_new w o
theorem blk_old {w : World} {o o' : Obj} {k : Nat} (hk : k < w.heap.size) (h : w.heap[k]? = some o) : (w.alloc o').heap[k]? = some o := (heap_alloc_old w o' hk).trans h
theorem below_draw {B : Nat} {w w' : World} (h : Below B w w') (n : Nat) : Below B w (w'.drewN n) := ⟨h.os, h.tape, h.output, h.size, h.block⟩
theorem Chg.cell {F : List Nat} {w w' : World} (h : Chg F w w') {p : Addr} {u : Value} (hq : w.cell? p = some u) (hp : p.block ∉ F) : w'.cell? p = some u :=
  (World.cell?_of_block (h.block p.block (World.block_lt_of_cell? _ _ hq) hp)).trans hq
theorem Chg.frozen {F : List Nat} {w w' : World} (h : Chg F w w') {p : Addr} {u : Value} {b : Bool} (hq : w.cell? p = some u) (hf : w.frozen? p = b) (hp : p.block ∉ F) : w'.frozen? p = b :=
  (World.frozen?_of_block (h.block p.block (World.block_lt_of_cell? _ _ hq) hp)).trans hf
end Go.Proofs.YthfbkhjcnfjmmaaDoor.Heap

/- Reading slices of structs and of numbers that came in; each theorem states its conditions. -/
import Derived.Test.YtlaipmakgicnfaaOwn
import Derived.Deep.Slices
import Derived.Deep.Fields
namespace Go.Proofs.Ytlaipmakgicnfaa.Own
open Go Go.RowKit Go.Proofs.Ytlaipmakgicnfaa.Heap Go.Proofs.Ytlaipmakgicnfaa.Own Go.ChangeShapes Go.WideShapes Go.Deep
section
variable {H : Type} {enc : TypeId × Value → H} {P : Program} {w : World} {base : Nat} {spare : Nat → Bool} {held : Bool}
theorem add_add' (a : Addr) (i j : Nat) : (a.add i).add j = a.add (i + j) := by
  unfold Addr.add
  by_cases hi : i = 0 <;> by_cases hj : j = 0 <;> simp [hi, hj, Nat.add_assoc]
/-- a slice of structs, each field of one cell, read at every index -/
theorem read_structs {t e : TypeId} {fs : Array Field} {v : Value} {d : DataW H} {p : List MemPlace} (ht : P.underlying t = some (.slice e)) (hs : P.underlying e = some (.struct fs))
    (hone : ∀ (i : Nat) (f : Field), fs[i]? = some f → f.offset = i ∧ P.cellsOf f.type = 1) (hC : P.cellsOf e = fs.size) (hv : v.cells.toList = [v]) (h : DataW.Trod enc P w base spare held t v d p) :
    v = .slice none 0 0 ∨ ∃ (a : Addr) (len cap : Nat) (V : Nat → Nat → Value), v = .slice (some a) len cap ∧ len ≤ cap ∧ cap ≤ maxLen ∧
      ∀ i, i < len → ∀ (j : Nat) (f : Field), fs[j]? = some f → w.cell? (a.add (i * fs.size + j)) = some (V i j) ∧ ∃ d p n, DataW.trod enc P w base spare held n f.type [V i j] = some (d, p) := by
  obtain ⟨fuel, hf⟩ := h
  rw [hv] at hf
  rcases open_slice ht hf with ⟨h1, _⟩ | ⟨a, len, cap, m, n, D, Pl, h1, _, hl, hc, hm, _, hx⟩
  · left; simpa using h1
  right
  have hlm : len ≤ m := by rw [hm]; split <;> omega
  have key : ∀ i, i < len → ∃ cs' : List Value, cs'.length = fs.size ∧ (∀ j, j < fs.size → w.cell? (a.add (i * fs.size + j)) = cs'[j]?) ∧ ∃ xs : List (DataW H × List MemPlace), ∃ k, xs.length = fs.size ∧
      ∀ (j : Nat) (f : Field), fs[j]? = some f → DataW.trod enc P w base spare held k f.type ((cs'.drop f.offset).take (P.cellsOf f.type)) = xs[j]? := by
    intro i hi
    obtain ⟨cs', hcells, hy⟩ := hx i (by omega)
    obtain ⟨_, hlen, hcell⟩ := World.cells?_some hcells
    rw [hC] at hlen hcell
    obtain ⟨xs, k, _, _, _, hxl, hff⟩ := DataW.trod_struct hs hy
    exact ⟨cs', hlen, fun j hj => by have := hcell j hj; rw [add_add'] at this; exact this, xs, k, hxl, hff⟩
  obtain ⟨CS, hCS⟩ := choose_lt key
  refine ⟨a, len, cap, fun i j => (CS i).getD j undef, by simpa using h1, hl, hc, fun i hi j f hj => ?_⟩
  obtain ⟨h2, h3, xs, k, hxl, h4⟩ := hCS i hi
  have hlt : j < fs.size := (Array.getElem?_eq_some_iff.1 hj).1
  obtain ⟨ho, hc1⟩ := hone j f hj
  have g := h4 j f hj
  rw [ho, hc1, take1_drop (CS i) j undef (by omega), List.getElem?_eq_getElem (by omega)] at g
  refine ⟨?_, _, _, k, g⟩
  rw [h3 j hlt, List.getElem?_eq_getElem (by omega)]
  simp [List.getD, List.getElem?_eq_getElem (show j < (CS i).length by omega)]
theorem read_ints {t e : TypeId} {k : IntKind} {v : Value} {n : Nat} {x : DataW H × List MemPlace} (ht : P.underlying t = some (.slice e)) (he : P.underlying e = some (.int k)) (hc : P.cellsOf e = 1)
    (h : DataW.trod enc P w base (fun _ => true) held n t [v] = some x) : ∃ A len cap zs, v = .slice A len cap ∧ IsRow k w A len cap zs := by
  rcases open_ints ht he hc h with ⟨h1, _⟩ | ⟨a, len, cap, zs, h1, _, hl, hm, hz, _, hcell, hwf⟩
  · exact ⟨none, 0, 0, [], by simpa using h1, .inl ⟨rfl, rfl, rfl, rfl⟩⟩
  · exact ⟨some a, len, cap, zs, by simpa using h1, .inr ⟨a, rfl, hl, hm, by simpa using hz, hcell, hwf⟩⟩
end
/-- how cells of equal rows lie behind each other -/
theorem flat_get {α : Type} (f : α → List Value) (size : Nat) (hf : ∀ a, (f a).length = size) (l : List α) (i j : Nat) (a : α) (hi : l[i]? = some a) (hj : j < size) : (l.flatMap f)[i * size + j]? = (f a)[j]? := by
  induction l generalizing i with
  | nil => simp at hi
  | cons b r ih =>
    rw [List.flatMap_cons]
    cases i with
    | zero =>
      simp at hi; subst hi
      rw [Nat.zero_mul, Nat.zero_add, List.getElem?_append_left (by rw [hf]; exact hj)]
    | succ i =>
      rw [List.getElem?_append_right (by rw [hf, Nat.succ_mul]; omega), hf, Nat.succ_mul, show i * size + size + j - size = i * size + j by omega]
      exact ih i (by simpa using hi)
theorem flat_len {α : Type} (f : α → List Value) (size : Nat) (hf : ∀ a, (f a).length = size) (l : List α) : (l.flatMap f).length = l.length * size := by
  induction l with
  | nil => simp
  | cons b r ih => rw [List.flatMap_cons, List.length_append, hf, ih, List.length_cons, Nat.succ_mul]; omega
theorem flat_split (size q : Nat) (hs : 0 < size) (n : Nat) (hq : q < n * size) : ∃ i j, i < n ∧ j < size ∧ q = i * size + j :=
  ⟨q / size, q % size, Nat.div_lt_of_lt_mul (by rw [Nat.mul_comm]; exact hq), Nat.mod_lt _ hs, by rw [Nat.mul_comm]; exact (Nat.div_add_mod q size).symm⟩
/-- a row of structs: from cells at each index -/
theorem src_rows {α : Type} {w : World} (f : α → List Value) (size : Nat) (hs : 0 < size) (hf : ∀ a, (f a).length = size) (l : List α) (ad : Addr) (n c : Nat) (hn : n = l.length)
    (h : ∀ (i j : Nat) (a : α) (u : Value), l[i]? = some a → (f a)[j]? = some u → w.cell? (ad.add (i * size + j)) = some u) : Src w size (.slice (some ad) n c) n (l.flatMap f) := by
  subst hn
  refine ⟨flat_len f size hf l, _, _, rfl, fun _ => ⟨ad, rfl, fun q u hu => ?_⟩⟩
  have hq : q < l.length * size := by rw [← flat_len f size hf l]; exact (List.getElem?_eq_some_iff.1 hu).1
  obtain ⟨i, j, hi, hj, rfl⟩ := flat_split size q hs _ hq
  rw [flat_get f size hf l i j _ (List.getElem?_eq_getElem hi) hj] at hu
  exact h i j _ u (List.getElem?_eq_getElem hi) hu
/-- a struct's fields' types, each of one cell (for the kernel) -/
def structIs (P : Program) (t : TypeId) (tys : List TypeId) : Bool := match P.underlying t with
  | some (.struct fs) => oneCellFields P fs && fs.toList.map (fun f => f.type) == tys
  | _ => false
theorem struct_of {P : Program} {t : TypeId} {tys : List TypeId} (h : structIs P t tys = true) : ∃ fs, P.underlying t = some (.struct fs) ∧ (∀ (i : Nat) (f : Field), fs[i]? = some f → f.offset = i ∧ P.cellsOf f.type = 1) ∧ fs.size = tys.length ∧
    ∀ (j : Nat) (ty : TypeId), tys[j]? = some ty → ∃ f, fs[j]? = some f ∧ f.type = ty := by
  unfold structIs at h
  split at h
  · rename_i fs hs
    simp only [Bool.and_eq_true, beq_iff_eq] at h
    refine ⟨fs, hs, hone_of h.1, by rw [← h.2]; simp, fun j ty hj => ?_⟩
    rw [← h.2, List.getElem?_map, Option.map_eq_some_iff] at hj
    obtain ⟨f, hf, ht⟩ := hj
    exact ⟨f, by simpa using hf, ht⟩
  · cases h
end Go.Proofs.Ytlaipmakgicnfaa.Own

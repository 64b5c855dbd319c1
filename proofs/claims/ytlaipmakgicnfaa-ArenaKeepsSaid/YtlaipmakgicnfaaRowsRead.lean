/- How rows of words come in; each states its conditions. -/
import Derived.Test.YtlaipmakgicnfaaReader
import Derived.Test.YtlaipmakgicnfaaWordP
namespace Go.Proofs.Ytlaipmakgicnfaa.Own
open Go Go.RowKit Go.Proofs.Ytlaipmakgicnfaa.Heap Go.Proofs.Ytlaipmakgicnfaa.Own Go.ChangeShapes Go.WideShapes Go.Deep
/-- a row of words as it came in, among rows -/
structure WRow where
  A : Option Addr
  len : Nat
  cap : Nat
  zs : List Int
def WRow.cells (a : WRow) : List Value := [.slice a.A a.len a.cap]
structure WRow.Ok (W : World) (a : WRow) : Prop where
  l : IsRow .u64 W a.A a.len a.cap a.zs
instance : Inhabited WRow := ⟨⟨none, 0, 0, []⟩⟩
theorem read_rows {H : Type} {enc : TypeId × Value → H} {w : World} {base : Nat} {held : Bool} {v : Value} {d : DataW H} {p : List MemPlace} (hv : v.cells.toList = [v]) (h : DataW.Trod enc Try.prog w base (fun _ => true) held 55 v d p) :
    ∃ (A : Option Addr) (c : Nat) (al : List WRow), v = .slice A al.length c ∧ al.length ≤ c ∧ c ≤ maxLen ∧ Src w 1 (.slice A al.length c) al.length (al.flatMap WRow.cells) ∧ ∀ a ∈ al, a.Ok w := by
  have U0 : Try.prog.underlying 55 = some (.slice 28) := by kernel_rfl
  have U1 : Try.prog.underlying 28 = some (.slice 31) := by kernel_rfl
  have E1 : Try.prog.underlying 31 = some (.int .u64) := by kernel_rfl
  have C0 : Try.prog.cellsOf 28 = 1 := by kernel_rfl
  have C1 : Try.prog.cellsOf 31 = 1 := by kernel_rfl
  obtain ⟨fuel, hf⟩ := h
  rw [hv] at hf
  rcases open_slice U0 hf with ⟨h1, _⟩ | ⟨a, len, cap, m, n, D, Pl, h1, _, hl, hc, hm, _, hx⟩
  · exact ⟨none, 0, [], by simpa using h1, Nat.le_refl _, Nat.zero_le _, Src.nil _ _ _ _, by simp⟩
  · have hlm : len ≤ m := by rw [hm]; split <;> omega
    have key : ∀ i, i < len → ∃ b : WRow, (∀ (j : Nat) (u : Value), b.cells[j]? = some u → w.cell? (a.add (i * 1 + j)) = some u) ∧ b.Ok w := by
      intro i hi
      obtain ⟨cs', hcells, hy⟩ := hx i (by omega)
      obtain ⟨_, hlen, hcell⟩ := World.cells?_some hcells
      rw [C0] at hlen hcell
      have h0 := hcell 0 (by decide)
      rw [add_add'] at h0
      match cs', hlen, hy, h0 with
      | [u], _, hy, h0 =>
        obtain ⟨A1, l1, k1, z1, rfl, w1⟩ := read_ints U1 E1 C1 hy
        refine ⟨⟨A1, l1, k1, z1⟩, ?_, ⟨w1⟩⟩
        intro j u hu
        rcases j with _ | j
        · simp [WRow.cells] at hu
          subst hu
          simpa using h0
        · simp [WRow.cells] at hu
    obtain ⟨B, hB⟩ := choose_lt key
    have hlen : ((List.range len).map B).length = len := by simp
    refine ⟨some a, cap, (List.range len).map B, by rw [hlen]; simpa using h1, by rw [hlen]; exact hl, hc, ?_, ?_⟩
    · refine src_rows WRow.cells 1 (by decide) (fun _ => rfl) _ a _ cap rfl ?_
      intro i j b u hi hu
      have hil : i < len := by have := (List.getElem?_eq_some_iff.1 hi).1; simpa using this
      rw [List.getElem?_map, List.getElem?_range hil] at hi
      simp at hi; subst hi
      exact (hB i hil).1 j u hu
    · intro b hb
      obtain ⟨i, hi, rfl⟩ := List.mem_map.1 hb
      exact (hB i (List.mem_range.1 hi)).2
theorem WRow.Ok.past {w w' : World} {F : List Nat} {a : WRow} (h : a.Ok w) (hc : Chg F w w') (hF : ∀ b, b ∈ F → w.heap.size ≤ b) : a.Ok w' :=
  ⟨h.l.past hc hF⟩
theorem WRow.cell {w : World} {b o : Nat} {al : List WRow} (hcell : ∀ (j : Nat) (u : Value), (al.flatMap WRow.cells)[j]? = some u → w.cell? ⟨b, o + j, none⟩ = some u) {k : Nat} {a : WRow} (ha : al[k]? = some a) : w.cell? ⟨b, o + k, none⟩ = some (.slice a.A a.len a.cap) := by
  have := hcell (k * 1 + 0) (.slice a.A a.len a.cap) (by rw [flat_get WRow.cells 1 (fun _ => rfl) al k 0 a ha (by decide)]; rfl)
  simpa using this
end Go.Proofs.Ytlaipmakgicnfaa.Own

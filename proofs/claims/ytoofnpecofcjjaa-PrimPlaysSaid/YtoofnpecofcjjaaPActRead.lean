/- Reading the acts of the prim laws that came in; no conditions but that they read as data. -/
import Derived.Test.YtoofnpecofcjjaaReader
import Derived.Test.YtoofnpecofcjjaaWordP
namespace Go.Proofs.Ytoofnpecofcjjaa.Own
open Go Go.RowKit Go.Proofs.Ytoofnpecofcjjaa.Heap Go.Proofs.Ytoofnpecofcjjaa.Own Go.ChangeShapes Go.WideShapes Go.Deep
/-- an element as it came in -/
structure PAct where
  op : Int
  lA : Option Addr
  lLen : Nat
  lCap : Nat
  l : List Int
  last : Int
def PAct.cells (a : PAct) : List Value := [.int .i64 a.op, .slice a.lA a.lLen a.lCap, .int .u8 a.last]
structure PAct.Ok (W : World) (a : PAct) : Prop where
  op : -9223372036854775808 ≤ a.op ∧ a.op < 9223372036854775808
  l : IsRow .u64 W a.lA a.lLen a.lCap a.l
  last : 0 ≤ a.last ∧ a.last < 256
instance : Inhabited PAct := ⟨⟨0, none, 0, 0, [], 0⟩⟩
theorem read_pacts_U : Try.prog.underlying 23 = some (.slice 34) := by kernel_rfl
theorem read_pacts_S : structIs Try.prog 34 [3, 32, 5] = true := by kernel_rfl
theorem read_pacts_C : Try.prog.cellsOf 34 = 3 := by kernel_rfl
theorem read_pacts {H : Type} {enc : TypeId × Value → H} {w : World} {base : Nat} {held : Bool} {v : Value} {d : DataW H} {p : List MemPlace} (hv : v.cells.toList = [v]) (h : DataW.Trod enc Try.prog w base (fun _ => true) held 23 v d p) :
    ∃ (A : Option Addr) (c : Nat) (al : List PAct), v = .slice A al.length c ∧ al.length ≤ c ∧ c ≤ maxLen ∧ Src w 3 (.slice A al.length c) al.length (al.flatMap PAct.cells) ∧ ∀ a ∈ al, a.Ok w := by
  obtain ⟨fs, hs, hone, hsz, fld⟩ := struct_of read_pacts_S
  rcases read_structs read_pacts_U hs hone (by rw [read_pacts_C, hsz]; rfl) hv h with rfl | ⟨a, len, cap, V, rfl, hl, hc, hx⟩
  · exact ⟨none, 0, [], rfl, Nat.le_refl _, Nat.zero_le _, Src.nil _ _ _ _, by simp⟩
  · rw [show fs.size = 3 from hsz] at hx
    have U0 : Try.prog.underlying 3 = some (.int .i64) := by kernel_rfl
    have U1 : Try.prog.underlying 32 = some (.slice 36) := by kernel_rfl
    have E1 : Try.prog.underlying 36 = some (.int .u64) := by kernel_rfl
    have C1 : Try.prog.cellsOf 36 = 1 := by kernel_rfl
    have U2 : Try.prog.underlying 5 = some (.int .u8) := by kernel_rfl
    have key : ∀ i, i < len → ∃ b : PAct, (∀ (j : Nat) (u : Value), b.cells[j]? = some u → w.cell? (a.add (i * 3 + j)) = some u) ∧ b.Ok w := by
      intro i hi
      obtain ⟨g0, e0, t0⟩ := fld 0 _ rfl
      obtain ⟨c0, _, _, _, r0⟩ := hx i hi 0 g0 e0
      rw [t0] at r0
      obtain ⟨g1, e1, t1⟩ := fld 1 _ rfl
      obtain ⟨c1, _, _, _, r1⟩ := hx i hi 1 g1 e1
      rw [t1] at r1
      obtain ⟨g2, e2, t2⟩ := fld 2 _ rfl
      obtain ⟨c2, _, _, _, r2⟩ := hx i hi 2 g2 e2
      rw [t2] at r2
      obtain ⟨n0, q0, _, w0⟩ := DataW.trod_int U0 r0
      obtain ⟨A1, l1, k1, z1, q1, w1⟩ := read_ints U1 E1 C1 r1
      obtain ⟨n2, q2, _, w2⟩ := DataW.trod_int U2 r2
      simp only [List.cons.injEq, and_true] at q0 q2
      rw [q0] at c0
      rw [q1] at c1
      rw [q2] at c2
      refine ⟨⟨n0, A1, l1, k1, z1, n2⟩, ?_, ⟨Word.wf_i64 w0, w1, Word.wf_u8 w2⟩⟩
      intro j u hu
      rcases j with _ | _ | _ | j
      all_goals simp only [PAct.cells, List.getElem?_cons_zero, List.getElem?_cons_succ, List.getElem?_nil, Option.some.injEq, Nat.zero_add, reduceCtorEq] at hu
      all_goals (subst hu; assumption)
    obtain ⟨B, hB⟩ := choose_lt key
    have hlen : ((List.range len).map B).length = len := by simp
    refine ⟨some a, cap, (List.range len).map B, by rw [hlen], by rw [hlen]; exact hl, hc, ?_, ?_⟩
    · refine src_rows PAct.cells 3 (by decide) (fun _ => rfl) _ a _ cap rfl ?_
      intro i j b u hi hu
      have hil : i < len := by have := (List.getElem?_eq_some_iff.1 hi).1; simpa using this
      rw [List.getElem?_map, List.getElem?_range hil] at hi
      simp at hi; subst hi
      exact (hB i hil).1 j u hu
    · intro b hb
      obtain ⟨i, hi, rfl⟩ := List.mem_map.1 hb
      exact (hB i (List.mem_range.1 hi)).2
theorem PAct.Ok.past {w w' : World} {F : List Nat} {a : PAct} (h : a.Ok w) (hc : Chg F w w') (hF : ∀ b, b ∈ F → w.heap.size ≤ b) : a.Ok w' :=
  ⟨h.op, h.l.past hc hF, h.last⟩
/-- its cells at index i of the slice -/
theorem PAct.cell {w : World} {b o : Nat} {al : List PAct} (hcell : ∀ (j : Nat) (u : Value), (al.flatMap PAct.cells)[j]? = some u → w.cell? ⟨b, o + j, none⟩ = some u) {k : Nat} {a : PAct} (ha : al[k]? = some a) (j : Nat) (u : Value) (hu : a.cells[j]? = some u) : w.cell? ⟨b, o + k * 3 + j, none⟩ = some u := by
  have hj : j < 3 := (List.getElem?_eq_some_iff.1 hu).1
  rw [Nat.add_assoc]
  exact hcell _ _ (by rw [flat_get PAct.cells 3 (fun _ => rfl) al k j a ha hj]; exact hu)
end Go.Proofs.Ytoofnpecofcjjaa.Own

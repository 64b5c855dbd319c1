/- Reading the acts of the arena laws that came in; no conditions but that they read as data. -/
import Derived.Test.YtlaipmakgicnfaaReader
import Derived.Test.YtlaipmakgicnfaaWordP
namespace Go.Proofs.Ytlaipmakgicnfaa.Own
open Go Go.RowKit Go.Proofs.Ytlaipmakgicnfaa.Heap Go.Proofs.Ytlaipmakgicnfaa.Own Go.ChangeShapes Go.WideShapes Go.Deep
/-- an act of the arena laws: its numbers, its slice's value, and what that reads as -/
structure AAct where
  kind : Int
  n : Int
  i : Int
  w : Int
  x : Int
  A : Option Addr
  len : Nat
  cap : Nat
  zs : List Int
def AAct.cells (a : AAct) : List Value := [.int .u8 a.kind, .int .i64 a.n, .int .i64 a.i, .int .u64 a.w, .int .u64 a.x, .slice a.A a.len a.cap]
structure AAct.Ok (W : World) (a : AAct) : Prop where
  kind : 0 ≤ a.kind ∧ a.kind < 256
  n : -9223372036854775808 ≤ a.n ∧ a.n < 9223372036854775808
  i : -9223372036854775808 ≤ a.i ∧ a.i < 9223372036854775808
  w : 0 ≤ a.w ∧ a.w < 18446744073709551616
  x : 0 ≤ a.x ∧ a.x < 18446744073709551616
  l : IsRow .u64 W a.A a.len a.cap a.zs
theorem actU : Try.prog.underlying 22 = some (.slice 37) := by kernel_rfl
theorem actS : structIs Try.prog 37 [5, 3, 3, 31, 31, 28] = true := by kernel_rfl
theorem actC : Try.prog.cellsOf 37 = 6 := by kernel_rfl
instance : Inhabited AAct := ⟨⟨0, 0, 0, 0, 0, none, 0, 0, []⟩⟩
theorem read_acts {H : Type} {enc : TypeId × Value → H} {w : World} {base : Nat} {held : Bool} {v : Value} {d : DataW H} {p : List MemPlace} (hv : v.cells.toList = [v]) (h : DataW.Trod enc Try.prog w base (fun _ => true) held 22 v d p) :
    ∃ (A : Option Addr) (c : Nat) (al : List AAct), v = .slice A al.length c ∧ al.length ≤ c ∧ c ≤ maxLen ∧ Src w 6 (.slice A al.length c) al.length (al.flatMap AAct.cells) ∧ ∀ a ∈ al, a.Ok w := by
  obtain ⟨fs, hs, hone, hsz, fld⟩ := struct_of actS
  rcases read_structs actU hs hone (by rw [actC, hsz]; rfl) hv h with rfl | ⟨a, len, cap, V, rfl, hl, hc, hx⟩
  · exact ⟨none, 0, [], rfl, Nat.le_refl _, Nat.zero_le _, Src.nil _ _ _ _, by simp⟩
  · rw [show fs.size = 6 from hsz] at hx
    have U8 : Try.prog.underlying 5 = some (.int .u8) := by kernel_rfl
    have UI : Try.prog.underlying 3 = some (.int .i64) := by kernel_rfl
    have UW : Try.prog.underlying 31 = some (.int .u64) := by kernel_rfl
    have UL : Try.prog.underlying 28 = some (.slice 31) := by kernel_rfl
    have CW : Try.prog.cellsOf 31 = 1 := by kernel_rfl
    have key : ∀ i, i < len → ∃ b : AAct, (∀ (j : Nat) (u : Value), b.cells[j]? = some u → w.cell? (a.add (i * 6 + j)) = some u) ∧ b.Ok w := by
      intro i hi
      obtain ⟨g0, e0, t0⟩ := fld 0 _ rfl
      obtain ⟨g1, e1, t1⟩ := fld 1 _ rfl
      obtain ⟨g2, e2, t2⟩ := fld 2 _ rfl
      obtain ⟨g3, e3, t3⟩ := fld 3 _ rfl
      obtain ⟨g4, e4, t4⟩ := fld 4 _ rfl
      obtain ⟨g5, e5, t5⟩ := fld 5 _ rfl
      obtain ⟨c0, _, _, _, r0⟩ := hx i hi 0 g0 e0
      obtain ⟨c1, _, _, _, r1⟩ := hx i hi 1 g1 e1
      obtain ⟨c2, _, _, _, r2⟩ := hx i hi 2 g2 e2
      obtain ⟨c3, _, _, _, r3⟩ := hx i hi 3 g3 e3
      obtain ⟨c4, _, _, _, r4⟩ := hx i hi 4 g4 e4
      obtain ⟨c5, _, _, _, r5⟩ := hx i hi 5 g5 e5
      rw [t0] at r0; rw [t1] at r1; rw [t2] at r2; rw [t3] at r3; rw [t4] at r4; rw [t5] at r5
      obtain ⟨n0, q0, _, w0⟩ := DataW.trod_int U8 r0
      obtain ⟨n1, q1, _, w1⟩ := DataW.trod_int UI r1
      obtain ⟨n2, q2, _, w2⟩ := DataW.trod_int UI r2
      obtain ⟨n3, q3, _, w3⟩ := DataW.trod_int UW r3
      obtain ⟨n4, q4, _, w4⟩ := DataW.trod_int UW r4
      obtain ⟨A5, l5, c5', z5, q5, w5⟩ := read_ints UL UW CW r5
      simp only [List.cons.injEq, and_true] at q0 q1 q2 q3 q4
      rw [q0] at c0; rw [q1] at c1; rw [q2] at c2; rw [q3] at c3; rw [q4] at c4; rw [q5] at c5
      refine ⟨⟨n0, n1, n2, n3, n4, A5, l5, c5', z5⟩, ?_, ⟨Word.wf_u8 w0, Word.wf_i64 w1, Word.wf_i64 w2, Word.wf_u64 w3, Word.wf_u64 w4, w5⟩⟩
      intro j u hu
      rcases j with _ | _ | _ | _ | _ | _ | j
      all_goals simp only [AAct.cells, List.getElem?_cons_zero, List.getElem?_cons_succ, List.getElem?_nil, Option.some.injEq, Nat.zero_add, reduceCtorEq] at hu
      all_goals (subst hu; assumption)
    obtain ⟨B, hB⟩ := choose_lt key
    have hlen : ((List.range len).map B).length = len := by simp
    refine ⟨some a, cap, (List.range len).map B, by rw [hlen], by rw [hlen]; exact hl, hc, ?_, ?_⟩
    · refine src_rows AAct.cells 6 (by decide) (fun _ => rfl) _ a _ cap rfl ?_
      intro i j b u hi hu
      have hil : i < len := by have := (List.getElem?_eq_some_iff.1 hi).1; simpa using this
      rw [List.getElem?_map, List.getElem?_range hil] at hi
      simp at hi; subst hi
      exact (hB i hil).1 j u hu
    · intro b hb
      obtain ⟨i, hi, rfl⟩ := List.mem_map.1 hb
      exact (hB i (List.mem_range.1 hi)).2
theorem AAct.Ok.past {w w' : World} {F : List Nat} {a : AAct} (h : a.Ok w) (hc : Chg F w w') (hF : ∀ b, b ∈ F → w.heap.size ≤ b) : a.Ok w' :=
  ⟨h.kind, h.n, h.i, h.w, h.x, h.l.past hc hF⟩
end Go.Proofs.Ytlaipmakgicnfaa.Own

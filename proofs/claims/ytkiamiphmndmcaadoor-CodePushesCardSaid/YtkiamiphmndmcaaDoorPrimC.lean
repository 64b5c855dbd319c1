import Derived.Test.YtkiamiphmndmcaaDoorSplit
namespace Go.Proofs.YtkiamiphmndmcaaDoor.Lib2
open Go Go.RowKit Go.Proofs.YtkiamiphmndmcaaDoor.Heap Go.Proofs.YtkiamiphmndmcaaDoor.Own
def namesS : List ByteArray := allNames.map str
def digits : List UInt8 := [50, 50, 50, 50, 50, 50, 50, 50, 49, 49, 49, 50, 49, 49, 49, 49, 49, 49, 49, 49, 49, 50, 49, 48, 50, 50, 49, 50, 49, 48]
/-- to how many a name's thing is done -/
def manyAt (k : Nat) : Int := ((digits.getD k 48).toNat : Int) - 48
theorem many_key (k : Nat) (hk : k < 30) : ((((⟨#[50, 50, 50, 50, 50, 50, 50, 50, 49, 49, 49, 50, 49, 49, 49, 49, 49, 49, 49, 49, 49, 50, 49, 48, 50, 50, 49, 50, 49, 48]⟩ : ByteArray)[k]'hk).toNat : Int) - 48) % 256 = manyAt k := by
  have h : ∀ j : Fin 30, ((((⟨#[50, 50, 50, 50, 50, 50, 50, 50, 49, 49, 49, 50, 49, 49, 49, 49, 49, 49, 49, 49, 49, 50, 49, 48, 50, 50, 49, 50, 49, 48]⟩ : ByteArray)[j.val]'j.isLt).toNat : Int) - 48) % 256 = manyAt j := by decide +kernel
  exact h ⟨k, hk⟩
def primOf (s : ByteArray) : Int × Int × Bool := if Lib.idxOfS namesS s < 0 then (0, 0, false) else (Lib.idxOfS namesS s + 1, manyAt (Lib.idxOfS namesS s).toNat, true)
theorem names_get (j : Nat) (hj : j < 30) : (namesS.map fun l => Value.string l)[j]? = some (.string (namesS.getD j ByteArray.empty)) := by
  have hl : j < namesS.length := hj
  rw [List.getElem?_map, List.getElem?_eq_getElem hl, List.getD_eq_getElem?_getD, List.getElem?_eq_getElem hl]; rfl
theorem strSplit_calls (w : World) : Calls Tryd.prog 28 #[.string (str (restB allNames)), .string ⟨#[32]⟩] w fun e w' => e = .returned (.slice (some ⟨w.heap.size, 0, none⟩) 30 30) ∧
    w'.heap[w.heap.size]? = some (.cells ((namesS.map fun l => Value.string l).toArray) 9 (0, 0)) ∧ Chg [] w w' := by
  have H := split_calls w
  rw [show (allNames.map fun l => Value.string (str l)) = namesS.map fun l => Value.string l by unfold namesS; rw [List.map_map]; rfl] at H
  generalize str (restB allNames) = S at *
  generalize (⟨#[32]⟩ : ByteArray) = T at *
  generalize (namesS.map fun l => Value.string l).toArray = C at *
  go_enter Tryd.func28, Tryd.ntmps28
  go_wp2_with fail
  refine H.mono ?_
  rintro e w1 ⟨rfl, h1, h2⟩
  go_wp2_with fail
  go_ret
  exact ⟨rfl, h1, h2⟩
theorem idxFrom_range (s : ByteArray) : ∀ (l : List ByteArray) (i : Nat), Lib.idxFromS l s i = -1 ∨ ((i : Int) ≤ Lib.idxFromS l s i ∧ Lib.idxFromS l s i < (i : Int) + l.length)
  | [], i => .inl rfl
  | z :: r, i => by
    unfold Lib.idxFromS
    split
    · right; simp; omega
    · rcases idxFrom_range s r (i + 1) with h | h
      · exact .inl h
      · right; simp at h ⊢; omega
theorem idx_range (s : ByteArray) : Lib.idxOfS namesS s = -1 ∨ (0 ≤ Lib.idxOfS namesS s ∧ Lib.idxOfS namesS s < 30) := by
  rcases idxFrom_range s namesS 0 with h | h
  · exact .inl h
  · right
    have : (namesS.length : Int) = 30 := rfl
    unfold Lib.idxOfS
    omega
set_option maxRecDepth 100000 in
theorem prim_calls (s : ByteArray) (w : World) : Calls Tryd.prog 21 #[.string s] w fun e w' =>
    e = .returned (.tuple #[.int .i64 (primOf s).1, .int .i64 (primOf s).2.1, .bool (primOf s).2.2]) ∧ Chg [] w w' := by
  have HS := strSplit_calls
  have hr := idx_range s
  have hIX : ∀ w1 : World, w1.heap[w.heap.size]? = some (.cells ((namesS.map fun l => Value.string l).toArray) 9 (0, 0)) →
      Calls Tryd.prog 27 #[.slice (some ⟨w.heap.size, 0, none⟩) 30 30, .string s] w1 fun e w' => e = .returned (.int .i64 (Lib.idxOfS namesS s)) ∧ w' = w1 := fun w1 h1 => by
    have IX := Tryd.slices_Index_string w.heap.size 0 30 30 namesS s w1 (Nat.le_of_eq rfl) (by decide) (by
      intro j hj
      rw [Nat.zero_add, blk_cell h1, List.getElem?_toArray]
      exact names_get j hj)
    rw [show namesS.take 30 = namesS from rfl] at IX
    exact IX
  unfold primOf
  generalize Lib.idxOfS namesS s = ix at *
  generalize hC0 : (namesS.map fun l => Value.string l).toArray = C0 at *
  clear hC0
  have hlit : str (restB allNames) = ⟨(restB allNames).toArray⟩ := rfl
  go_enter Tryd.func21, Tryd.ntmps21
  go_wp2_with fail
  refine (HS _).mono ?_
  rintro e w1 ⟨rfl, h1, h2⟩
  have IX := hIX w1 h1
  have HC := Lib.hid h2
  clear h1 h2 HS hlit hIX
  go_wp2_with fail
  refine IX.mono ?_
  rintro e w2 ⟨rfl, rfl⟩
  rcases hr with rfl | ⟨r0, r1⟩
  · go_wp2_with fail
    go_ret3
    exact ⟨rfl, HC.out⟩
  · obtain ⟨k, rfl⟩ : ∃ k : Nat, ix = k := ⟨ix.toNat, by omega⟩
    have t1 : decide ((k : Int) < 0) = false := by simp
    go_wp2_with fail
    go_quiet (fail)
    go_wp2_with fail
    go_ret3
    refine ⟨(congrArg (fun z => Ending.returned (.tuple #[.int .i64 ((k : Int) + 1), .int .i64 z, .bool true])) (many_key k (by omega))).trans ?_, HC.out.draw _⟩
    rfl
end Go.Proofs.YtkiamiphmndmcaaDoor.Lib2

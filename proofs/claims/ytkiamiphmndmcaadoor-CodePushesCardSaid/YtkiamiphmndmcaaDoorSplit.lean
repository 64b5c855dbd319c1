import Derived.Test.YtkiamiphmndmcaaDoorShelf
import Derived.Test.YtkiamiphmndmcaaDoorOwn
import Derived.WalkKit
import Derived.Lib.Hide
namespace Go.Proofs.YtkiamiphmndmcaaDoor.Lib2
open Go Go.RowKit Go.Proofs.YtkiamiphmndmcaaDoor.Heap Go.Proofs.YtkiamiphmndmcaaDoor.Own
/-- the names of what the language does, as one text -/
def allNames : List (List UInt8) := [[43],[45],[42],[113,117,111,116,105,101,110,116],[114,101,109,97,105,110,100,101,114],[60],[61],[101,113,63],[110,111,116],[110,117,108,108,63],[112,97,105,114,63],[99,111,110,115],[99,97,114],[99,100,114],[110,117,109,98,101,114,63],[115,121,109,98,111,108,63],[112,114,111,99,101,100,117,114,101,63],[99,97,108,108,47,99,99],[111,117,116],[115,112,97,119,110],[109,105,99,114,111],[97,102,116,101,114],[99,97,110,99,101,108],[112,114,111,109,105,115,101],[115,101,116,116,108,101],[116,104,101,110],[115,116,114,101,97,109],[119,114,105,116,101],[114,101,97,100],[116,105,109,101]]
def str (l : List UInt8) : ByteArray := ⟨l.toArray⟩
def restB : List (List UInt8) → List UInt8
  | [] => []
  | [a] => a
  | a :: r => a ++ 32 :: restB r
theorem rest_ix : ∀ j : Fin 29, Lib.indexByte (restB (allNames.drop j)) 32 = (allNames.getD j []).length := by decide +kernel
attribute [local go_sem] max2_int min2_int max_two min_two
theorem makeS (W : World) : Sem.run Tryd.prog (Instr.makeSlice 49 (.int .i64 30) (.int .i64 30)) W = .ok (.slice (some ⟨W.heap.size, 0, none⟩) 30 30) (W.alloc (.cells (Array.replicate 30 (.string ⟨#[]⟩)) 9)) := by
  kernel_rfl
/-- what is left behind k of them -/
def leftK (k : Nat) : ByteArray := str (restB (allNames.drop k))
def nameK (k : Nat) : ByteArray := str (allNames.getD k [])
theorem restB_cons (a : List UInt8) {r : List (List UInt8)} (h : r ≠ []) : restB (a :: r) = a ++ 32 :: restB r := by
  cases r with
  | nil => exact absurd rfl h
  | cons b t => rfl
theorem left_eq (k : Nat) (hk : k < 29) : restB (allNames.drop k) = allNames.getD k [] ++ 32 :: restB (allNames.drop (k + 1)) := by
  have hl : allNames.length = 30 := rfl
  have h1 : allNames.drop k = allNames.getD k [] :: allNames.drop (k + 1) := by
    rw [List.drop_eq_getElem_cons (by omega), List.getD_eq_getElem?_getD, List.getElem?_eq_getElem (by omega)]; rfl
  rw [h1, restB_cons]
  intro h
  have := congrArg List.length h
  simp [hl] at this
  omega
theorem str_size (l : List UInt8) : (str l).size = l.length := by simp [str, ByteArray.size]
theorem left_ix (k : Nat) (hk : k < 29) : Lib.indexByte (leftK k).data.toList 32 = ((nameK k).size : Int) := by
  have := rest_ix ⟨k, hk⟩
  unfold leftK nameK
  rw [str_size]
  simpa [str] using this
theorem left_size (k : Nat) (hk : k < 29) : (leftK k).size = (nameK k).size + 1 + (leftK (k + 1)).size := by
  unfold leftK nameK
  rw [str_size, str_size, str_size, left_eq k hk]
  simp
  omega
theorem left_168 (k : Nat) (hk : k < 30) : (leftK k).size ≤ 168 := by
  have h : ∀ j : Fin 30, (restB (allNames.drop j)).length ≤ 168 := by decide +kernel
  unfold leftK
  rw [str_size]
  exact h ⟨k, hk⟩
theorem left_take (k : Nat) (hk : k < 29) : (leftK k).extract 0 (nameK k).size = nameK k ∧ (leftK k).extract ((nameK k).size + 1) (leftK k).size = leftK (k + 1) := by
  have e := left_eq k hk
  unfold leftK nameK at *
  generalize allNames.getD k [] = a at *
  generalize restB (allNames.drop (k + 1)) = r at *
  rw [e, str_size, str_size]
  constructor
  · apply ByteArray.ext
    simp [str]
  · apply ByteArray.ext
    simp [str]
    exact List.take_of_length_le (by omega)
def cellsK (k : Nat) : List Value := (allNames.take k).map (fun l => Value.string (str l)) ++ List.replicate (30 - k) (Value.string ⟨#[]⟩)
theorem take_len (k : Nat) (hk : k ≤ 30) : ((allNames.take k).map (fun l => Value.string (str l))).length = k := by
  rw [List.length_map, List.length_take]
  exact Nat.min_eq_left hk
theorem cellsK_get (k : Nat) (hk : k < 30) : (cellsK k).toArray[k]? = some (Value.string ⟨#[]⟩) := by
  unfold cellsK
  rw [List.getElem?_toArray, List.getElem?_append_right (by rw [take_len k (by omega)]; exact Nat.le_refl _), take_len k (by omega), Nat.sub_self, List.getElem?_replicate, if_pos (by omega)]
theorem cellsK_set (k : Nat) (hk : k < 30) : (cellsK k).toArray.setIfInBounds k (Value.string (nameK k)) = (cellsK (k + 1)).toArray := by
  have hl : k < allNames.length := hk
  unfold cellsK nameK
  rw [List.setIfInBounds_toArray, List.set_append_right _ _ (by rw [take_len k (by omega)]; exact Nat.le_refl _), take_len k (by omega), Nat.sub_self, show 30 - k = (30 - (k + 1)) + 1 by omega, List.replicate_succ, List.set_cons_zero, List.take_succ_eq_append_getElem hl, List.map_append, List.append_assoc]
  congr 3
  rw [List.getD_eq_getElem?_getD, List.getElem?_eq_getElem hl]; rfl
set_option maxRecDepth 100000 in
set_option maxHeartbeats 1000000 in
theorem split_calls (w : World) : Calls Tryd.prog 32 #[.string (str (restB allNames)), .string ⟨#[32]⟩, .int .i64 0, .int .i64 (-1)] w fun e w' => e = .returned (.slice (some ⟨w.heap.size, 0, none⟩) 30 30) ∧
    w'.heap[w.heap.size]? = some (.cells ((allNames.map fun l => Value.string (str l)).toArray) 9 (0, 0)) ∧ Chg [] w w' := by
  have hcnt : (Lib.countByte (str (restB allNames)).data.toList 32 : Int) = 29 := by decide +kernel
  have hsz : (str (restB allNames)).size = 168 := by decide +kernel
  have mk := makeS
  have HC := fun w => Tryd.strings_Count_one (str (restB allNames)) 32 w
  rw [hcnt] at HC
  generalize HS : str (restB allNames) = S at *
  have hne : (⟨#[32]⟩ : ByteArray).toList.isEmpty = false := by decide +kernel
  have hs1 : (⟨#[32]⟩ : ByteArray).size = 1 := rfl
  generalize hT : (⟨#[32]⟩ : ByteArray) = T at *
  go_enter Tryd.func32, Tryd.ntmps32
  go_wp2_with fail
  refine (HC _).mono ?_
  rintro e w1 ⟨rfl, rfl⟩
  go_wp2_with fail
  have hS : S = leftK 0 := by rw [← HS]; rfl
  clear HS hcnt HC mk hsz
  subst hS
  have hnew : (w1.alloc (.cells (Array.replicate 30 (.string ⟨#[]⟩)) 9)).heap[w1.heap.size]? = some (.cells (Array.replicate 30 (.string ⟨#[]⟩)) 9 (0, 0)) := blk_new rfl
  have hC : Chg [] w1 (w1.alloc (.cells (Array.replicate 30 (.string ⟨#[]⟩)) 9)) := (Chg.refl _ _).alloc _
  generalize w1.alloc (.cells (Array.replicate 30 (.string ⟨#[]⟩)) 9) = W2 at *
  generalize hg : w1.heap.size = g at *
  have HG := Lib.hid hg
  clear hg
  go_loopw [10, 0] (fun i v wr => ∃ k : Nat, k ≤ 29 ∧ i = .int .i64 k ∧ v = .string (leftK k) ∧ wr.heap[g]? = some (.cells (cellsK k).toArray 9 (0, 0)) ∧ Chg [] w1 wr) (fun i _ _ => 29 - (intOf i).toNat)
  case atStart => exact ⟨0, by decide, rfl, rfl, by rw [hnew]; rfl, hC⟩
  case round =>
    obtain ⟨k, hk, rfl, rfl, hb, hc⟩ := hrel
    by_cases hlt : k < 29
    · have IX := fun w => Tryd.strings_Index_one (leftK k) 32 w
      rw [left_ix k hlt, hT] at IX
      obtain ⟨t1, t2⟩ := left_take k hlt
      have t3 := left_size k hlt
      have t4 := left_168 k (by omega)
      have hz : wr.cell? ⟨g, k, none⟩ = some (.string ⟨#[]⟩) := by
        rw [blk_cell hb]; exact cellsK_get k (by omega)
      have hf := blk_frozen hb k
      have HB := Lib.hid hb
      have HCC := Lib.hid hc
      clear hb hc hnew hC
      generalize leftK k = L at *
      generalize hL' : leftK (k + 1) = L' at *
      have HL' := Lib.hid hL'
      clear hL'
      generalize hnm : nameK k = M at *
      have HNM := Lib.hid hnm
      clear hnm
      obtain ⟨mi, hmi⟩ : ∃ mi : Int, (M.size : Int) = mi := ⟨_, rfl⟩
      rw [hmi] at IX
      have b0 : 0 ≤ mi := by omega
      have b2 : mi < (L.size : Int) := by omega
      have b3 : mi < 9223372036854775807 := by omega
      have HMI := Lib.hid hmi
      clear hmi
      have b4 : (0 : Int) ≤ (k : Int) := Int.natCast_nonneg _
      have b5 : (k : Int) < 30 := by omega
      generalize leftK 0 = L0 at *
      have T1 := Lib.hid t1
      have T2 := Lib.hid t2
      have T3 := Lib.hid t3
      clear t1 t2 t3
      go_upto_region 14 with (go_at_call 35; refine (IX _).mono ?_; rintro e w8 ⟨rfl, rfl⟩)
      go_wp2_with fail
      go_roundw
      case rel =>
        refine ⟨k + 1, by omega, by go_num, ?_, ?_, HCC.out.set ⟨g, k, none⟩ _ (.inr (by rw [HG.out]; exact Nat.le_refl _))⟩
        · rw [HL'.out, ← T2.out, show (mi + 1).toNat = M.size + 1 by have := HMI.out; omega]
        · rw [blk_set HB.out, show mi.toNat = M.size by have := HMI.out; omega, T1.out, ← HNM.out, cellsK_set k (by omega)]
      case measure => simp [intOf]; omega
    · obtain rfl : k = 29 := by omega
      have hz : wr.cell? ⟨g, 29, none⟩ = some (.string ⟨#[]⟩) := by
        rw [blk_cell hb]; exact cellsK_get 29 (by omega)
      have hf := blk_frozen hb 29
      have HB := Lib.hid hb
      have HCC := Lib.hid hc
      clear hb hc hnew hC
      have e29 : leftK 29 = nameK 29 := rfl
      rw [e29]
      generalize hnm : nameK 29 = M at *
      have HNM := Lib.hid hnm
      clear hnm e29
      generalize leftK 0 = L0 at *
      go_wp2_with fail
      go_ret
      refine ⟨by rw [HG.out]; rfl, ?_, ?_⟩
      · rw [HG.out, blk_set HB.out, ← HNM.out, cellsK_set 29 (by omega)]
        rfl
      · exact HCC.out.set ⟨g, 29, none⟩ _ (.inr (by rw [HG.out]; exact Nat.le_refl _))
end Go.Proofs.YtkiamiphmndmcaaDoor.Lib2

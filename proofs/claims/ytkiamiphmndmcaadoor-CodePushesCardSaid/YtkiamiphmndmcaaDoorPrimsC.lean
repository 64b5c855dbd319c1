import Derived.Test.YtkiamiphmndmcaaDoorPrimC
import Derived.Maps.OwnOps
import Derived.Maps.Views
namespace Go.Proofs.YtkiamiphmndmcaaDoor.Lib2
open Go Go.RowKit Go.Proofs.YtkiamiphmndmcaaDoor.Heap Go.Proofs.YtkiamiphmndmcaaDoor.Own Go.Maps
theorem lawI : Keyed Tryd.prog 3 := int_keyed Tryd.underlying3
theorem zeroI (w : World) : (zeroValue 3).run Tryd.prog w = .ok (.int .i64 0) w := by kernel_rfl
/-- the names that code checks -/
def codeNames : List ByteArray := (allNames.eraseIdx 17).map str
def keyK (k : Nat) : Int := if k < 17 then (k : Int) + 1 else (k : Int) + 2
def manyK (k : Nat) : Int := manyAt (keyK k - 1).toNat
/-- what is done by each number, of the first k names -/
def tabK : Nat → Int → Option Int
  | 0, _ => none
  | k + 1, a => if a = keyK k then some (manyK k) else tabK k a
theorem prim_name (k : Nat) (hk : k < 29) : primOf (codeNames.getD k ByteArray.empty) = (keyK k, manyK k, true) ∧ keyK k ≠ 18 := by
  have h : ∀ j : Fin 29, primOf (codeNames.getD j ByteArray.empty) = (keyK j, manyK j, true) ∧ keyK j ≠ 18 := by decide +kernel
  exact h ⟨k, hk⟩
theorem all_calls (w : World) : Calls Tryd.prog 15 #[] w fun e w' => e = .returned (.slice (some ⟨w.heap.size, 0, none⟩) 29 29) ∧
    w'.heap[w.heap.size]? = some (.cells ((codeNames.map fun l => Value.string l).toArray) 9 (0, 0)) ∧ Chg [] w w' := by
  go_enter Tryd.func15, Tryd.ntmps15
  go_wp2_with fail
  go_ret
  exact ⟨rfl, (blk_new rfl).trans rfl, (Chg.refl _ _).alloc _⟩
def PrimTab (D : DataW Unit) (k : Nat) : Prop := ∀ a z, D.atKey (.int .i64 a) z = match tabK k a with | some v => .lit (.int .i64 v) | none => z
theorem PrimTab.step {D : DataW Unit} {k : Nat} (h : PrimTab D k) (hm : IsMap D) : PrimTab (D.put (.int .i64 (keyK k)) (.lit (.int .i64 (manyK k)))) (k + 1) := by
  intro a z
  simp only [tabK]
  by_cases ha : a = keyK k
  · subst ha
    rw [if_pos rfl, atKey_put_same hm (by simp [WideAt.IsKeyLit])]
  · rw [if_neg ha, atKey_put_other (by simpa using ha)]
    exact h a z
theorem key_wf (k : Nat) (hk : k < 29) : (Lit.int .i64 (keyK k)).wf = true ∧ (Lit.int .i64 (manyK k)).wf = true := by
  have h : ∀ j : Fin 29, (Lit.int .i64 (keyK j)).wf = true ∧ (Lit.int .i64 (manyK j)).wf = true := by decide +kernel
  exact h ⟨k, hk⟩
theorem code_get (j : Nat) (hj : j < 29) : (codeNames.map fun l => Value.string l).toArray[j]? = some (.string (codeNames.getD j ByteArray.empty)) := by
  have hl : j < codeNames.length := hj
  rw [List.getElem?_toArray, List.getElem?_map, List.getElem?_eq_getElem hl, List.getD_eq_getElem?_getD, List.getElem?_eq_getElem hl]; rfl
theorem own_isMap {H : Type} {w : World} {P : Program} {k : TypeId} {R : Value → Option (DataW H × List MemPlace)} {b n : Nat} {D : DataW H} (h : w.ownsMap P k R b n D) : IsMap D := by
  obtain ⟨es, clock, _, _, _, hD⟩ := h
  exact ⟨_, hD⟩
theorem chg_map {w w' : World} {b : Nat} (h : w.grownBy w' (some b)) : Chg [b] w w' :=
  ⟨h.os, h.tape, h.output, h.size, fun k hk hn => h.block k hk (fun e => hn (by simp at e; simp [e]))⟩
set_option maxHeartbeats 1000000 in
set_option maxRecDepth 100000 in
theorem prims_calls (b : Nat) (w : World) (hb : w.heap[b]? = some (.cells ((codeNames.map fun l => Value.string l).toArray) 9 (0, 0))) :
    Calls Tryd.prog 14 #[.slice (some ⟨b, 0, none⟩) 29 29] w fun e w' => ∃ mb D, e = .returned (.map (some mb)) ∧ w.heap.size ≤ mb ∧ w'.ownsMap Tryd.prog 3 (plainElem (H := Unit) Tryd.prog 3) mb 29 D ∧ PrimTab D 29 ∧ Chg [] w w' := by
  have hG : ∀ j, j < 29 → w.cell? ⟨b, j, none⟩ = some (.string (codeNames.getD j ByteArray.empty)) := fun j hj => by rw [blk_cell hb]; exact code_get j hj
  have HG := Lib.hid hG
  have hbl := blk_lt hb
  clear hG hb
  have hmm := @run_makeMap Tryd.prog
  have hmade := World.ownsMap_made (H := Unit) w Tryd.prog 3 (plainElem Tryd.prog 3)
  have hC : Chg [] w (w.alloc (.map #[] 0)) := (Chg.refl _ _).alloc _
  go_enter Tryd.func14, Tryd.ntmps14
  go_wp2_with fail
  clear hmm
  generalize w.alloc (.map #[] 0) = W2 at *
  generalize hmb : w.heap.size = mb at *
  have HMB := Lib.hid hmb
  clear hmb
  go_loopw [12] (fun i wx => ∃ (j : Nat) (D : DataW Unit), j ≤ 29 ∧ i = .int .i64 j ∧ wx.ownsMap Tryd.prog 3 (plainElem Tryd.prog 3) mb j D ∧ Hid (PrimTab D j) ∧ Chg [] w wx) (fun i _ => 29 - (intOf i).toNat)
  case atStart => exact ⟨0, _, Nat.zero_le _, rfl, hmade, Lib.hid (fun a z => rfl), hC⟩
  case round =>
    obtain ⟨j, D, hj, rfl, hown, hD, hcx⟩ := hrel
    by_cases hlt : j < 29
    · have hz : wr.cell? ⟨b, j, none⟩ = some (.string (codeNames.getD j ByteArray.empty)) := hcx.cell (HG.out j hlt) (by simp)
      obtain ⟨p1, p2⟩ := prim_name j hlt
      obtain ⟨k1, k2⟩ := key_wf j hlt
      have HP := fun w => prim_calls (codeNames.getD j ByteArray.empty) w
      rw [p1] at HP
      have HD2 : Hid (PrimTab (D.put (.int .i64 (keyK j)) (.lit (.int .i64 (manyK j)))) (j + 1)) := Lib.hid (hD.out.step (own_isMap hown))
      have hkey : keyOf Tryd.prog 3 (.int .i64 (keyK j)) = some (.int .i64 (keyK j)) := keyOf_int_mk Tryd.underlying3 k1
      have HOWN := Lib.hid hown
      have HCX := Lib.hid hcx
      clear hown hcx hD hmade hC p1
      generalize codeNames.getD j ByteArray.empty = nm at *
      generalize keyK j = ky at *
      generalize manyK j = mn at *
      have t1 : (ky != 18) = true := by simpa using p2
      simp only at HP
      go_upto_region 6 with (go_at_call 21; refine (HP _).mono ?_; rintro e w8 ⟨rfl, h8⟩)
      have HOWN8 : Hid (w8.ownsMap Tryd.prog 3 (plainElem (H := Unit) Tryd.prog 3) mb j D) := Lib.hid (HOWN.out.kept (row := none) ⟨h8.os, h8.tape, h8.output, h8.size, fun k hk _ => h8.block k hk (by simp)⟩ (by simp))
      have HC8 := Lib.hid (HCX.out.same h8)
      clear h8 HOWN HP
      go_wp2_with (at_mapUpdate; refine wpList_mapUpdate_own _ rfl _ _ _ 47 rfl 3 3 lawI Tryd.underlying47 _ mb j _ rfl HOWN8.out (by unfold maxLen; omega) _ _ _ rfl rfl hkey _ [] (plainElem_int Tryd.underlying3 k2) ?_; intro w9 hown9 hgrow9)
      go_roundw
      case rel => exact ⟨j + 1, _, by omega, by go_num, hown9, HD2, HC8.out.trans (chg_map hgrow9) (fun b' hb' => .inr (by simp at hb'; rw [hb', HMB.out]; exact Nat.le_refl _))⟩
      case measure => simp [intOf]; omega
    · obtain rfl : j = 29 := by omega
      have HOWN := Lib.hid hown
      have HCX := Lib.hid hcx
      clear hown hcx hmade hC
      go_wp2_with fail
      go_ret
      exact ⟨mb, D, rfl, by rw [HMB.out]; exact Nat.le_refl _, HOWN.out, hD.out, HCX.out⟩
end Go.Proofs.YtkiamiphmndmcaaDoor.Lib2

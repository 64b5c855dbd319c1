/- The examples at the head of the laws hold; each states its conditions. -/
import Derived.Test.YthfbkhjcnfjmmaaDoorReadS
namespace Go.Proofs.YthfbkhjcnfjmmaaDoor.ReadM
open Go Go.RowKit Go.Proofs.YthfbkhjcnfjmmaaDoor.Heap Go.Proofs.YthfbkhjcnfjmmaaDoor.Own Go.Proofs.YthfbkhjcnfjmmaaDoor.ReadP
open Go.Proofs.YthfbkhjcnfjmmaaDoorW.PrintWords (Aside0 below_then below_alloc)
theorem RI_nil (w : World) : RI w (.slice none 0 0) [] := ⟨none, 0, rfl, Nat.le_refl _, fun h => absurd h (Nat.lt_irrefl 0)⟩
theorem RI_blk {w : World} {k : Nat} {t : TypeId} {l : List Int} (h : w.heap[k]? = some (.cells (nums .i64 l).toArray t (0, 0))) (c : Nat) (hc : l.length ≤ c) : RI w (.slice (some ⟨k, 0, none⟩) l.length c) l :=
  ⟨_, c, rfl, hc, fun _ => ⟨k, 0, rfl, fun j x hj => by rw [Nat.zero_add, Heap.blk_cell h, nums_get, hj]; rfl⟩⟩
theorem RN_blk {w : World} {k : Nat} {t : TypeId} {rs : List (Nd × Value)} (h : w.heap[k]? = some (.cells (rs.flatMap nodeC).toArray t (0, 0))) (c : Nat) (hc : rs.length ≤ c) (hi : ∀ p ∈ rs, RI w p.2 p.1.l) : RN w (.slice (some ⟨k, 0, none⟩) rs.length c) rs := by
  refine ⟨_, c, rfl, hc, fun _ => ⟨k, 0, rfl, fun j p hj => ?_⟩, hi⟩
  have f := flat5 nodeC (fun _ => rfl) rs j p hj
  have g : ∀ i, i < 5 → w.cell? ⟨k, 0 + j * 5 + i, none⟩ = (nodeC p)[i]? := fun i hi => by
    rw [Nat.zero_add, Heap.blk_cell h, List.getElem?_toArray, f i hi]
  exact ⟨g 0 (by omega), g 1 (by omega), g 2 (by omega), g 3 (by omega), g 4 (by omega)⟩
theorem shown_read : readF [40, 97, 32, 39, 98, 41] = .ok ([⟨3, 1, 0, [97], []⟩, ⟨3, 3, 0, [113, 117, 111, 116, 101], []⟩, ⟨3, 4, 0, [98], []⟩, ⟨4, 3, 0, [], [1, 2]⟩, ⟨4, 0, 0, [], [0, 3]⟩], [4]) := by kernel_rfl
set_option maxHeartbeats 4000000 in
set_option maxRecDepth 100000 in
theorem shown_calls (w : World) (hV : Go.Proofs.YthfbkhjcnfjmmaaDoor.LexC.Vars w) :
    Calls Tryd.prog 10 #[] w fun e w' => e = .returned (.bool true) ∧ Below w.heap.size w w' := by
  have RC := Lib.hid (read_calls (⟨#[40, 97, 32, 39, 98, 41]⟩ : ByteArray) w hV)
  clear hV
  go_enter Tryd.func10, Tryd.ntmps10
  go_wp2_with fail
  refine RC.out.mono ?_
  rintro e w2 ⟨⟨base, hb, hp⟩, hB⟩
  rw [shown_read] at hp
  obtain ⟨v0, v1, rs, rfl, hrs, hN, hT, hI, _⟩ := hp
  have HRN := Lib.hid (Nodes.rn hN hI)
  have HRI := Lib.hid hT.ri
  have HB := Aside0.mk hB
  have HRS := Lib.hid hrs
  clear hrs hN hT hI hB RC
  go_wp2_with fail
  refine (ints_same [4] v1 _ _ (HRI.out.chg ((Chg.refl [] w2).alloc _)) (RI_blk (l := [4]) (t := 3) (Heap.blk_new rfl) 1 (by decide)) (by decide)).mono ?_
  rintro e w3 ⟨rfl, m, hm⟩
  have K3 := Lib.hid (show Chg [] w2 w3 by rw [hm]; exact ((Chg.refl [] w2).alloc _).draw m)
  clear hm
  go_wp2_with fail
  refine (nodes_same rs [(⟨3, 1, 0, [97], []⟩, .slice none 0 0), (⟨3, 3, 0, [113, 117, 111, 116, 101], []⟩, .slice none 0 0), (⟨3, 4, 0, [98], []⟩, .slice none 0 0), (⟨4, 3, 0, [], [1, 2]⟩, .slice (some ⟨w3.heap.size, 0, none⟩) 2 2), (⟨4, 0, 0, [], [0, 3]⟩, .slice (some ⟨w3.heap.size + 1, 0, none⟩) 2 2)] v0 _ _ (HRN.out.chg (K3.out.sub ((((Chg.refl [] w3).alloc _).alloc _).alloc _))) (RN_blk (t := 32) (Heap.blk_new (by simp)) 5 (by simp) ?_) HRS.out ?_ ?_).mono ?_
  · intro p hp
    simp at hp
    rcases hp with rfl | rfl | rfl | rfl | rfl
    · exact RI_nil _
    · exact RI_nil _
    · exact RI_nil _
    · exact RI_blk (l := [1, 2]) (t := 3) (Heap.blk_old (by simp; omega) (Heap.blk_old (by simp) (Heap.blk_new rfl))) 2 (by decide)
    · exact RI_blk (l := [0, 3]) (t := 3) (Heap.blk_old (by simp) (Heap.blk_new (by simp))) 2 (by decide)
  · have := congrArg List.length HRS.out; simp at this; omega
  · intro p hp
    have : p.1 ∈ rs.map (·.1) := List.mem_map_of_mem hp
    rw [HRS.out] at this
    simp at this
    rcases this with h | h | h | h | h <;> rw [h] <;> decide
  rintro e w4 ⟨rfl, m4, hm4⟩
  have HB4 := Lib.hid (below_then HB.out HB.out.size (Chg.below (show Chg [] w2 w4 by rw [hm4]; exact (K3.out.sub ((((Chg.refl [] w3).alloc _).alloc _).alloc _)).draw m4)))
  clear hm4
  go_wp2_with fail
  go_ret
  exact ⟨rfl, HB4.out⟩
end Go.Proofs.YthfbkhjcnfjmmaaDoor.ReadM

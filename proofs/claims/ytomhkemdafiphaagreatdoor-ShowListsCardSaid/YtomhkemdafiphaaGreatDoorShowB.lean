/- Contracts of a strings.Builder at the head of a block; each states its conditions. -/
import Derived.Test.YtomhkemdafiphaaGreatDoorAppStep
import Derived.Test.YtomhkemdafiphaaGreatDoorWWords
import Derived.Lib.Builder
import Derived.Lib.AppendStr
import Derived.Lib.UnsafeStr
import Derived.Lib.Strings
import Derived.Laws.Externs
import Derived.WalkKit
import Derived.WalkMore
import Derived.BigQuiet
import Derived.BigRegion
import Derived.Lib.Hide
import Derived.WalkSpells
namespace Go.Proofs.YtomhkemdafiphaaGreatDoor.ShowB
open Go Go.RowKit Go.Proofs.YtomhkemdafiphaaGreatDoor.Heap
open Go.Proofs.YtomhkemdafiphaaGreatDoor.Own (ob mem_ob own_keep)
open Go.Lib (byteCells)
theorem infoByte : (Tryz.prog.info? 5).map (fun i => (i.zero, i.size, i.bytes)) = some (some (.int .u8 0), 1, 1) := by kernel_rfl
theorem infoBuilder : (Tryz.prog.info? 74).map (·.size) = some 2 := by kernel_rfl
theorem cellsByte : Tryz.prog.cellsOf 5 = 1 := by kernel_rfl
theorem own_ne_blk {w : World} {base e size n g : Nat} {v : Value} {xs : List Value} {cs : Array Value} {t : TypeId} (h : w.ownsRow base e size v n xs) (hb : w.heap[g]? = some (.cells cs t (0, 0))) (hne : t ≠ e) : v.ownBlock ≠ some g := by
  intro hv
  rcases h.2 with ⟨rfl, _⟩ | ⟨g', cap, cur, rfl, _, hg, _⟩
  · cases hv
  · injection hv with hv
    subst hv
    rw [hb] at hg
    simp at hg
    exact hne hg.2
/-- the builder at the head of a block: p: what 'addr' holds -/
structure BAt (w : World) (B b : Nat) (T : TypeId) (rest : List Value) (p : Value) (t : List UInt8) : Prop where
  lo : B ≤ b
  nt : T ≠ 5
  lies : liesAt Tryz.prog Tryz.prog.depth T ((rest.length + 2) / Tryz.prog.cellsOf T) 0 74 1 = true
  blk : ∃ v, w.heap[b]? = some (.cells (p :: v :: rest).toArray T (0, 0)) ∧ w.ownsRow B 5 1 v t.length (byteCells t) ∧ v.ownBlock ≠ some b
/-- a builder, fresh or used, that holds a text -/
def IsB (w : World) (B b : Nat) (T : TypeId) (rest : List Value) (t : List UInt8) : Prop := BAt w B b T rest (.pointer none) t ∨ BAt w B b T rest (.pointer (some ⟨b, 0, none⟩)) t
theorem IsB.get {w : World} {B b : Nat} {T : TypeId} {rest : List Value} {t : List UInt8} (h : IsB w B b T rest t) : ∃ p, BAt w B b T rest p t := h.elim (fun h => ⟨_, h⟩) (fun h => ⟨_, h⟩)
theorem BAt.lt {w : World} {B b : Nat} {T : TypeId} {rest : List Value} {p : Value} {t : List UInt8} (h : BAt w B b T rest p t) : B ≤ w.heap.size := by
  obtain ⟨v, h1, _⟩ := h.blk
  have := blk_lt h1
  have := h.lo
  omega
/-- blocks below are changed, or new ones are made -/
theorem BAt.chg {w w' : World} {B b : Nat} {T : TypeId} {rest : List Value} {p : Value} {t : List UInt8} (h : BAt w B b T rest p t) (k : Chg [] w w') : BAt w' B b T rest p t := by
  obtain ⟨v, h1, h2, h3⟩ := h.blk
  exact ⟨h.lo, h.nt, h.lies, v, k.at h1 (by simp), own_keep h2 k (by simp), h3⟩
theorem IsB.chg {w w' : World} {B b : Nat} {T : TypeId} {rest : List Value} {t : List UInt8} (h : IsB w B b T rest t) (k : Chg [] w w') : IsB w' B b T rest t := h.imp (fun h => h.chg k) (fun h => h.chg k)
theorem BAt.drew {w : World} {B b : Nat} {T : TypeId} {rest : List Value} {p : Value} {t : List UInt8} (h : BAt w B b T rest p t) : BAt w.drew B b T rest p t := h.chg (Chg.refl _ _).drew
/-- what a builder's call keeps: all below B; and each block but b that is no row of bytes -/
structure Fr (B b : Nat) (w w' : World) : Prop where
  below : Below B w w'
  kept : ∀ (k : Nat) (cs : Array Value) (t : TypeId) (fz : Nat × Nat), w.heap[k]? = some (.cells cs t fz) → k ≠ b → t ≠ 5 → w'.heap[k]? = some (.cells cs t fz)
theorem Fr.refl (B b : Nat) (w : World) : Fr B b w w := ⟨Below.refl B w, fun _ _ _ _ h _ _ => h⟩
theorem Fr.trans {B b : Nat} {w w1 w2 : World} (h : Fr B b w w1) (k : Fr B b w1 w2) : Fr B b w w2 := ⟨h.below.trans k.below, fun j cs t fz h1 h2 h3 => k.kept j cs t fz (h.kept j cs t fz h1 h2 h3) h2 h3⟩
theorem Fr.chg {B b : Nat} {w w' : World} (k : Chg [] w w') (hB : B ≤ w.heap.size) : Fr B b w w' := ⟨⟨k.os, k.tape, k.output, k.size, fun j hj => k.block j (by omega) (by simp)⟩, fun j cs t fz h _ _ => k.at h (by simp)⟩
theorem Fr.old {B b : Nat} {w0 w w' : World} (k : Fr B b w w') (h : Chg [] w0 w) (hB : w0.heap.size ≤ B) : Chg [] w0 w' :=
  ⟨k.below.os.trans h.os, k.below.tape.trans h.tape, k.below.output.trans h.output, Nat.le_trans h.size k.below.size, fun j hj hn => (k.below.block j (by omega)).trans (h.block j hj hn)⟩
theorem Fr.set {B b : Nat} {w w1 : World} (h : Fr B b w w1) (hb : B ≤ b) (i : Nat) (u : Value) : Fr B b w (w1.setCell ⟨b, i, none⟩ u) := ⟨h.below.setCell (p := ⟨b, i, none⟩) hb _, fun j cs t fz h1 h2 h3 => blk_far (h.kept j cs t fz h1 h2 h3) (p := ⟨b, i, none⟩) h2 u⟩
theorem Fr.grown {B b : Nat} {w w1 w2 : World} {v : Value} {n : Nat} {xs : List Value} (h : Fr B b w w1) (hg : w1.grownBy w2 v.ownBlock) (ho : w1.ownsRow B 5 1 v n xs) (hB : B ≤ w1.heap.size) : Fr B b w w2 := by
  refine ⟨h.below.grown hg hB (fun k hk => (ho.lt k hk).1), fun j cs t fz h1 h2 h3 => ?_⟩
  have h4 := h.kept j cs t fz h1 h2 h3
  rw [hg.block j (blk_lt h4) (fun e => ?_)]
  · exact h4
  · rcases ho.2 with ⟨rfl, _⟩ | ⟨g, cap, cur, rfl, _, hb, _⟩
    · cases e
    · injection e with e
      subst e
      rw [h4] at hb
      injection hb with hb
      injection hb with _ hb _
      exact h3 hb
set_option maxHeartbeats 2000000 in
set_option maxRecDepth 100000 in
theorem check_used {w : World} {B b : Nat} {T : TypeId} {rest : List Value} {t : List UInt8} (h : BAt w B b T rest (.pointer (some ⟨b, 0, none⟩)) t) :
    Calls Tryz.prog 57 #[.pointer (some ⟨b, 0, none⟩)] w fun e w' => e = .returned (.tuple #[]) ∧ w = w' := by
  obtain ⟨v, hbk, _, _⟩ := h.blk
  obtain ⟨j, hj, _⟩ := Option.map_eq_some_iff.1 infoBuilder
  have c0 := blk_cell hbk 0
  simp at c0
  have hnq := Lib.run_neq_ptr_same (P := Tryz.prog) w ⟨b, 0, none⟩ Tryz.underlying71 hj
  clear h hbk
  go_enter Tryz.func57, Tryz.ntmps57
  go_wp2_with fail
  go_end0
  exact ⟨rfl, rfl⟩
set_option maxHeartbeats 2000000 in
set_option maxRecDepth 100000 in
theorem check_fresh {w : World} {B b : Nat} {T : TypeId} {rest : List Value} {t : List UInt8} (h : BAt w B b T rest (.pointer none) t) :
    Calls Tryz.prog 57 #[.pointer (some ⟨b, 0, none⟩)] w fun e w' => e = .returned (.tuple #[]) ∧ BAt w' B b T rest (.pointer (some ⟨b, 0, none⟩)) t ∧ Fr B b w w' := by
  obtain ⟨v, hbk, hown, hne⟩ := h.blk
  obtain ⟨j, hj, hjs⟩ := Option.map_eq_some_iff.1 infoBuilder
  have c0 := blk_cell hbk 0
  have f0 := blk_frozen hbk 0
  simp at c0
  have hsh : w.shape? b = some (T, rest.length + 2) := by simp [World.shape?, hbk]
  have hcv1 := Lib.run_to_unsafe (P := Tryz.prog) w ⟨b, 0, none⟩ Tryz.underlying71 Tryz.underlying146 hj (by rw [hjs]; decide) hsh (Nat.zero_lt_succ _)
  have hcv2 := Lib.run_from_unsafe (P := Tryz.prog) w ⟨b, 0, none⟩ Tryz.underlying146 Tryz.underlying71 hj hsh h.lies
  have hne1 : (callFunc 74 #[.pointer (some ⟨b, 0, none⟩)]).run Tryz.prog w = .ok (.value (.pointer (some ⟨b, 0, none⟩))) w := by
    rw [run_callFunc_extern Tryz.func74 (by kernel_rfl) (by kernel_rfl) (by kernel_rfl) (e := Extern.AbiNoEscape.same) (by kernel_rfl), Lib.run_noEscape]
    rfl
  have HB := Lib.hid h
  have HBK := Lib.hid hbk
  have HOWN := Lib.hid hown
  clear h hbk hown
  go_enter Tryz.func57, Tryz.ntmps57
  go_wp2_with fail
  go_end0
  refine ⟨rfl, ⟨HB.out.lo, HB.out.nt, HB.out.lies, v, ?_, own_keep HOWN.out (F := [b]) ((Chg.refl [b] w).set _ _ (.inl (by simp))) (fun k hk hm => by
    have : k = b := by simpa using hm
    subst this
    exact hne hk), hne⟩, (Fr.refl B b w).set HB.out.lo _ _⟩
  have := blk_set HBK.out 0 (.pointer (some ⟨b, 0, none⟩))
  simpa using this
theorem check_calls {w : World} {B b : Nat} {T : TypeId} {rest : List Value} {t : List UInt8} (h : IsB w B b T rest t) :
    Calls Tryz.prog 57 #[.pointer (some ⟨b, 0, none⟩)] w fun e w' => e = .returned (.tuple #[]) ∧ BAt w' B b T rest (.pointer (some ⟨b, 0, none⟩)) t ∧ Fr B b w w' := by
  rcases h with h | h
  · exact check_fresh h
  · refine (check_used h).mono ?_
    rintro e w' ⟨rfl, rfl⟩
    exact ⟨rfl, h, Fr.refl B b _⟩
/-- what is put into the builder's block behind an append -/
theorem BAt.put {w w' : World} {B b : Nat} {T : TypeId} {rest : List Value} {p v v' : Value} {t t' : List UInt8} (h : BAt w B b T rest p t) (hb' : w'.heap[b]? = some (.cells (p :: v :: rest).toArray T (0, 0))) (hown : w'.ownsRow B 5 1 v' t'.length (byteCells t')) : BAt (w'.setCell ⟨b, 1, none⟩ v') B b T rest p t' := by
  have hne' := own_ne_blk hown hb' h.nt
  refine ⟨h.lo, h.nt, h.lies, v', ?_, own_keep hown (F := [b]) ((Chg.refl [b] w').set _ _ (.inl (by simp))) (fun k hk hm => by
    have : k = b := by simpa using hm
    subst this
    exact hne' hk), hne'⟩
  have := blk_set hb' 1 v'
  simpa using this
set_option maxHeartbeats 2000000 in
set_option maxRecDepth 100000 in
theorem writeS_calls {w : World} {B b : Nat} {T : TypeId} {rest : List Value} {t : List UInt8} (h : IsB w B b T rest t) (s : ByteArray) (hlen : t.length + s.size ≤ 140737488355328) :
    Calls Tryz.prog 43 #[.pointer (some ⟨b, 0, none⟩), .string s] w fun e w' => e = .returned (.tuple #[.int .i64 s.size, .nilIface]) ∧ BAt w' B b T rest (.pointer (some ⟨b, 0, none⟩)) (t ++ s.data.toList) ∧ Fr B b w w' := by
  obtain ⟨i0, hi, hz0, hz1, hz2⟩ := info_parts infoByte
  have CC := Lib.hid (check_calls h)
  clear h
  go_enter Tryz.func43, Tryz.ntmps43
  go_wp2_with fail
  refine CC.out.mono ?_
  rintro e w1 ⟨rfl, h1, hb1⟩
  obtain ⟨v, hbk, hown, hne⟩ := id h1.blk
  have HB1 := Lib.hid h1
  have BL1 := Lib.hid hb1
  have HBK := Lib.hid hbk
  have hB1 : B ≤ w1.heap.size := h1.lt
  have c0 := blk_cell hbk 0
  have c1 := blk_cell hbk 1
  simp at c0 c1
  clear h1 hb1
  go_wp2_with (at_builtin; refine Lib.wpList_append_own_string _ rfl _ _ 72 9 rfl B 5 i0 Tryz.underlying72 Tryz.underlying9 hi hz0 hz1 hz2 _ _ _ rfl hown s rfl ?c3 ?c4 ?c5 ?_)
  case c3 => unfold maxLen; omega
  case c4 => omega
  case c5 => omega
  intro v' w2 hown' hgrow _
  have hlt := blk_lt hbk
  have hb2 : w2.heap[b]? = some (.cells (.pointer (some ⟨b, 0, none⟩) :: v :: rest).toArray T (0, 0)) := by rw [hgrow.block b hlt (fun e => hne e.symm)]; exact hbk
  have d0 := blk_cell hb2 0
  have d1 := blk_cell hb2 1
  have f1 := blk_frozen hb2 1
  simp at d0 d1
  obtain ⟨B', c', rfl⟩ := Go.Proofs.YtomhkemdafiphaaGreatDoor.Own.own_slice hown'
  have hl : t.length + s.size = (t ++ s.data.toList).length := by rw [List.length_append, ← Lib.size_eq]
  have HB2 := Lib.hid hb2
  have HO := Lib.hid (show w2.ownsRow B 5 1 (.slice B' (t.length + s.size) c') (t ++ s.data.toList).length (byteCells (t ++ s.data.toList)) from by rw [← hl, Lib.byteCells_append]; exact hown')
  have HG := Lib.hid (show Fr B b w w2 from BL1.out.grown hgrow hown (by omega))
  clear hown' hgrow hb2 hown hbk hl c0 c1
  go_wp2_with fail
  go_ret2
  exact ⟨rfl, BAt.put ⟨HB1.out.lo, HB1.out.nt, HB1.out.lies, HB1.out.blk⟩ HB2.out HO.out, HG.out.set HB1.out.lo _ _⟩
set_option maxHeartbeats 2000000 in
set_option maxRecDepth 100000 in
theorem writeB_calls {w : World} {B b : Nat} {T : TypeId} {rest : List Value} {t : List UInt8} (h : IsB w B b T rest t) (c : UInt8) (hlen : t.length + 1 ≤ 140737488355328) :
    Calls Tryz.prog 46 #[.pointer (some ⟨b, 0, none⟩), .int .u8 c.toNat] w fun e w' => e = .returned .nilIface ∧ BAt w' B b T rest (.pointer (some ⟨b, 0, none⟩)) (t ++ [c]) ∧ Fr B b w w' := by
  obtain ⟨i0, hi, hz0, hz1, hz2⟩ := info_parts infoByte
  have CC := Lib.hid (check_calls h)
  clear h
  generalize hcv : (c.toNat : Int) = cv
  have HCV := Lib.hid hcv
  clear hcv
  go_enter Tryz.func46, Tryz.ntmps46
  go_wp2_with fail
  refine CC.out.mono ?_
  rintro e w1 ⟨rfl, h1, hb1⟩
  obtain ⟨v, hbk, hown, hne⟩ := id h1.blk
  have HB1 := Lib.hid h1
  have BL1 := Lib.hid hb1
  have HBK := Lib.hid hbk
  have hB1 : B ≤ w1.heap.size := h1.lt
  have c0 := blk_cell hbk 0
  have c1 := blk_cell hbk 1
  simp at c0 c1
  clear h1 hb1
  go_wp2_with (at_builtin; refine wpList_append_own _ rfl _ _ 72 rfl B 5 i0 (.int .u8 0) 1 1 Tryz.underlying72 hi hz0 hz1 hz2 rfl (by decide) _ _ _ rfl (hown.alloc _) ⟨w1.heap.size, 0, none⟩ 1 1 [.int .u8 cv] rfl rfl ?c1 ?c2 ?c3 ?c4 ?c5 ?_)
  case c1 => exact (cell_one_new _ _ _)
  case c2 => intro u hu; simp at hu; subst hu; rfl
  case c3 => unfold maxLen; omega
  case c4 => omega
  case c5 => show B ≤ (w1.heap.push _).size; simp; omega
  intro v' w2 hown' hgrow _
  have hlt := blk_lt hbk
  have hb2 : w2.heap[b]? = some (.cells (.pointer (some ⟨b, 0, none⟩) :: v :: rest).toArray T (0, 0)) := by rw [hgrow.block b (by show b < (w1.heap.push _).size; simp; omega) (fun e => hne e.symm)]; exact blk_old hlt hbk
  have d0 := blk_cell hb2 0
  have d1 := blk_cell hb2 1
  have f1 := blk_frozen hb2 1
  simp at d0 d1
  obtain ⟨B', c', rfl⟩ := Go.Proofs.YtomhkemdafiphaaGreatDoor.Own.own_slice hown'
  have HB2 := Lib.hid hb2
  have HO := Lib.hid (show w2.ownsRow B 5 1 (.slice B' (t.length + 1) c') (t ++ [c]).length (byteCells (t ++ [c])) from by
    rw [List.length_append, List.length_singleton, Lib.byteCells_append]
    have : byteCells [c] = [.int .u8 cv] := by rw [← HCV.out]; rfl
    rw [this]
    exact hown')
  have HG := Lib.hid (show Fr B b w w2 from (BL1.out.trans (Fr.chg ((Chg.refl [] w1).alloc _) hB1)).grown hgrow (hown.alloc _) (by show B ≤ (w1.heap.push _).size; simp; omega))
  clear hown' hgrow hb2 hown hbk c0 c1
  go_wp2_with fail
  go_ret
  exact ⟨rfl, BAt.put ⟨HB1.out.lo, HB1.out.nt, HB1.out.lies, HB1.out.blk⟩ HB2.out HO.out, HG.out.set HB1.out.lo _ _⟩
theorem len_calls {w : World} {B b : Nat} {T : TypeId} {rest : List Value} {p : Value} {t : List UInt8} (h : BAt w B b T rest p t) :
    Calls Tryz.prog 89 #[.pointer (some ⟨b, 0, none⟩)] w fun e w' => e = .returned (.int .i64 t.length) ∧ w = w' := by
  obtain ⟨v, hbk, hown, hne⟩ := h.blk
  obtain ⟨B', c', rfl⟩ := Go.Proofs.YtomhkemdafiphaaGreatDoor.Own.own_slice hown
  have c1 := blk_cell hbk 1
  simp at c1
  clear h hbk hown hne
  go_enter Tryz.func89, Tryz.ntmps89
  go_wp2_with fail
  go_ret
  exact ⟨rfl, rfl⟩
set_option maxHeartbeats 4000000 in
set_option maxRecDepth 100000 in
theorem string_some {w : World} {B b : Nat} {T : TypeId} {rest : List Value} {p : Value} {t : List UInt8} (h : BAt w B b T rest p t) (h0 : t ≠ []) :
    Calls Tryz.prog 30 #[.pointer (some ⟨b, 0, none⟩)] w fun e w' => e = .returned (.string ⟨t.toArray⟩) ∧ Below B w w' := by
  obtain ⟨v, hbk, hown, hne⟩ := h.blk
  have hl0 : t.length ≠ 0 := by simpa using h0
  obtain ⟨g, cap, cur, rfl, hbg, hg, hnc, hcm, hcs, htake⟩ : ∃ g cap cur, v = .slice (some ⟨g, 0, none⟩) t.length cap ∧ B ≤ g ∧ w.heap[g]? = some (.cells cur 5 (0, 0)) ∧ t.length ≤ cap ∧ cap ≤ maxLen ∧ cur.size = cap * 1 ∧ cur.toList.take (t.length * 1) = byteCells t := by
    rcases hown.2 with ⟨_, hz⟩ | ⟨g, cap, cur, hv, r⟩
    · exact absurd hz hl0
    · exact ⟨g, cap, cur, hv, r⟩
  have c1 := blk_cell (w := w.drew) hbk 1
  simp at c1
  have hSD : (Builtin.unsafeSliceData_ #[72] 118 #[.slice (some ⟨g, 0, none⟩) t.length cap]).run Tryz.prog w.drew = .ok (.pointer (some ⟨g, 0, none⟩)) w.drew :=
    Lib.run_unsafeSliceData_row _ _ _ _ _ _ (by omega)
  have hUS : (Builtin.unsafeString_ #[118, 3] 9 #[.pointer (some ⟨g, 0, none⟩), .int .i64 t.length]).run Tryz.prog w.drew = .ok (.string ⟨t.toArray⟩) (w.drew.freeze ⟨g, 0, none⟩ t.length) := by
    refine Lib.run_unsafeString_row w.drew 118 3 9 5 Tryz.underlying118 cellsByte g cur.size (by have hg' : w.drew.heap[g]? = some (.cells cur 5 (0, 0)) := hg; simp [World.shape?, hg']) t h0 (by omega) (by unfold maxLen at hcm; omega) ?_
    intro j x hx
    have := hown.cells (g := g) rfl j (.int .u8 x.toNat) (by simp [byteCells, hx])
    exact this
  have HB := Lib.hid h
  have HGG := Lib.hid hbg
  clear h hbk hown hne hg hnc hcm hcs htake h0 hl0 hbg
  go_enter Tryz.func30, Tryz.ntmps30
  go_wp2_with fail
  go_region
  all_goals (go_wp2_with fail; go_ret; exact ⟨rfl, Lib.below_freeze (Below.drew (Below.refl B w)) (p := ⟨g, 0, none⟩) HGG.out _⟩)
set_option maxHeartbeats 4000000 in
set_option maxRecDepth 100000 in
theorem string_none {w : World} {B b : Nat} {T : TypeId} {rest : List Value} {p : Value} (h : BAt w B b T rest p []) :
    Calls Tryz.prog 30 #[.pointer (some ⟨b, 0, none⟩)] w fun e w' => e = .returned (.string ⟨#[]⟩) ∧ Below B w w' := by
  obtain ⟨v, hbk, hown, hne⟩ := h.blk
  have hlo := h.lt
  have hUS := fun (W : World) (q : Option Addr) => Lib.run_unsafeString_none (P := Tryz.prog) W 118 3 9 q
  have hlt := blk_lt hbk
  rcases hown.2 with ⟨rfl, _⟩ | ⟨g, cap, cur, rfl, hbg, hg, _, _, _, _⟩
  · have c1 := blk_cell (w := w.drew) hbk 1
    simp at c1
    have hSD : (Builtin.unsafeSliceData_ #[72] 118 #[.slice none 0 0]).run Tryz.prog w.drew = .ok (.pointer none) w.drew := rfl
    clear h hbk hown hne
    go_enter Tryz.func30, Tryz.ntmps30
    go_wp2_with fail
    go_region
    all_goals (go_wp2_with fail; go_ret; exact ⟨rfl, Below.drew (Below.refl B w)⟩)
  · by_cases hc0 : cap = 0
    · subst hc0
      have c1 := blk_cell (w := w.drew) hbk 1
      simp at c1
      have hSD : (Builtin.unsafeSliceData_ #[72] 118 #[.slice (some ⟨g, 0, none⟩) 0 0]).run Tryz.prog w.drew = .ok (.pointer (some ⟨w.drew.heap.size, 0, none⟩)) (w.drew.alloc (.view ⟨g, 0, none⟩ 5)) :=
        Lib.run_unsafeSliceData_zero w.drew _ _ 5 Tryz.underlying118 ⟨g, 0, none⟩ 0 (5, cur.size) (by have hg' : w.drew.heap[g]? = some (.cells cur 5 (0, 0)) := hg; simp [World.shape?, hg'])
      have c2 : (w.drew.alloc (.view ⟨g, 0, none⟩ 5)).cell? ⟨b, 1, none⟩ = some (.slice (some ⟨g, 0, none⟩) 0 0) := by
        have := blk_cell (blk_old (w := w.drew) (o' := .view ⟨g, 0, none⟩ 5) hlt hbk) 1
        simpa using this
      have c3 : (w.alloc (.view ⟨g, 0, none⟩ 5)).drew.cell? ⟨b, 1, none⟩ = some (.slice (some ⟨g, 0, none⟩) 0 0) := c2
      have c0 : w.cell? ⟨b, 1, none⟩ = some (.slice (some ⟨g, 0, none⟩) 0 0) := c1
      clear h hbk hown hne hg
      go_enter Tryz.func30, Tryz.ntmps30
      go_wp2_with fail
      go_region
      all_goals (go_wp2_with fail; go_ret; exact ⟨rfl, (Below.drew (Below.refl B w)).alloc hlo _⟩)
    · have c1 := blk_cell (w := w.drew) hbk 1
      simp at c1
      have hSD : (Builtin.unsafeSliceData_ #[72] 118 #[.slice (some ⟨g, 0, none⟩) 0 cap]).run Tryz.prog w.drew = .ok (.pointer (some ⟨g, 0, none⟩)) w.drew :=
        Lib.run_unsafeSliceData_row _ _ _ _ _ _ hc0
      clear h hbk hown hne hg hc0
      go_enter Tryz.func30, Tryz.ntmps30
      go_wp2_with fail
      go_region
      all_goals (go_wp2_with fail; go_ret; exact ⟨rfl, Below.drew (Below.refl B w)⟩)
theorem string_calls {w : World} {B b : Nat} {T : TypeId} {rest : List Value} {p : Value} {t : List UInt8} (h : BAt w B b T rest p t) :
    Calls Tryz.prog 30 #[.pointer (some ⟨b, 0, none⟩)] w fun e w' => e = .returned (.string ⟨t.toArray⟩) ∧ Below B w w' := by
  cases t with
  | nil => exact string_none h
  | cons x r => exact string_some h (by simp)
end Go.Proofs.YtomhkemdafiphaaGreatDoor.ShowB

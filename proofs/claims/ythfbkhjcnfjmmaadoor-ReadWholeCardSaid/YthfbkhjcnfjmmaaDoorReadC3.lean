/- The contracts of close and put; each states its conditions. -/
import Derived.Test.YthfbkhjcnfjmmaaDoorReadC2
import Derived.StillTailTactics
namespace Go.Proofs.YthfbkhjcnfjmmaaDoor.ReadM
open Go Go.RowKit Go.Proofs.YthfbkhjcnfjmmaaDoor.Heap Go.Proofs.YthfbkhjcnfjmmaaDoor.Own Go.Proofs.YthfbkhjcnfjmmaaDoor.ReadP
open Go.Proofs.YthfbkhjcnfjmmaaDoorW.PrintWords (Aside0 below_then below_alloc)
set_option maxHeartbeats 4000000 in
set_option maxRecDepth 100000 in
theorem close_step (base g : Nat) (rs : List (Nd × Value)) (tops : List Int) (v1 : Value) (o : Pt) (b : Nat) (v : Value) (os : List (Pt × Nat × Value)) (w : World) (h : IsRd w base g rs tops v1 ((o, b, v) :: os)) (hos : os.length ≤ 1000)
    (hP : ∀ (W : World) (Lx : Value), IsRd W base g rs tops v1 os → Ints W base Lx o.l → (∀ v ∈ v1 :: (os.map (·.2.2) ++ rs.map (·.2)), ∀ k, v.ownBlock = some k → Lx.ownBlock ≠ some k) →
      Calls Tryd.prog 26 #[.pointer (some ⟨g, 0, none⟩), .agg (nodeC (⟨4, o.at_, 0, [], o.l⟩, Lx)).toArray] W (PutPost W base g (putS (rs.map (·.1)) tops (os.map (·.1)) ⟨4, o.at_, 0, [], o.l⟩))) :
    Calls Tryd.prog 27 #[.pointer (some ⟨g, 0, none⟩)] w (PutPost w base g (putS (rs.map (·.1)) tops (os.map (·.1)) ⟨4, o.at_, 0, [], o.l⟩)) := by
  obtain ⟨Av, cv, hv⟩ := own_slice (h.ops (o, b, v) (List.mem_cons_self ..)).2.2
  simp only at hv
  subst hv
  generalize hst : putS (rs.map (·.1)) tops (os.map (·.1)) ⟨4, o.at_, 0, [], o.l⟩ = st at *
  have H := Lib.hid h
  have HP := Lib.hid hP
  have hbase : base ≤ w.heap.size := by have := h.hg; obtain ⟨_, _, _, hh, _, _⟩ := h.cells; have := blk_lt hh; omega
  have LC := Lib.hid (last_rd1 h hos)
  clear hst h hP
  go_enter Tryd.func27, Tryd.ntmps27
  go_wp2_with fail
  refine LC.out.mono ?_
  rintro e w3 ⟨rfl, n3, hw3⟩
  have KC : Chg [] w w3 := by rw [hw3]; exact (Chg.refl [] w).draw n3
  have H3 := Lib.hid (H.out.chg KC)
  have K3 := Lib.hid KC
  clear hw3 KC LC
  obtain ⟨v0, A, c, hbk, _, hop⟩ := H3.out.cells
  rw [List.length_cons] at hbk hop
  obtain ⟨g1, g2, g3⟩ := H3.out.ops (o, b, .slice Av o.l.length cv) (List.mem_cons_self ..)
  simp only at g1 g2 g3
  have hcap : os.length + 1 ≤ c := by
    rcases hop.2 with ⟨_, h2⟩ | ⟨g', cap, cur, h1, _, _, h2, _⟩
    · omega
    · simp only [Value.slice.injEq] at h1
      obtain ⟨_, _, rfl⟩ := h1
      omega
  have HBK := Lib.hid hbk
  have GB := Lib.hid g1
  have HOB := Lib.hid g2
  have t0 := blk_cell hbk 2
  simp at t0
  have tf := blk_frozen hbk 2
  generalize hm : os.length = m at *
  have HM := Lib.hid hm
  have b0 : (0 : Int) ≤ (m : Int) := by omega
  have b1 : (m : Int) < 1001 := by omega
  have b2 : (m : Int) ≤ (c : Int) := by omega
  have b3 : (m : Int) ≤ (m : Int) + 1 := by omega
  have e1 : (m : Int) + 1 - 1 = (m : Int) := by omega
  have w1 : IntKind.i64.wrap ((m : Int) + 1 - 1) = (m : Int) := by rw [IntWalk.i64_in _ (by omega)]; omega
  clear hm hos hcap hop g1 g2 g3 hbk
  go_upto_region 1 with fail
  go_region
  go_wp2_with fail
  have hbk := HBK.out
  rw [← HM.out] at hbk
  obtain ⟨p1, p2, p3⟩ := H3.out.pop hbk
  rw [HM.out] at p1 p2
  have hob4 : (w3.setCell ⟨g, 2, none⟩ (.slice A m c)).heap[b]? = some (.cells #[.int .i64 o.at_, .bool o.quote, .slice Av o.l.length cv] 53 (0, 0)) := blk_far HOB.out (blk_ne HOB.out hbk (by decide)) _
  have D : Chg [] (w3.setCell ⟨g, 2, none⟩ (.slice A m c)) (w3.setCell ⟨g, 2, none⟩ (.slice A m c)).drew := (Chg.refl [] _).drew
  have I4 := p1.chg D
  have I5 := own_keep p2 D (by simp)
  have I6 := D.at hob4 (by simp)
  have kk : Chg [g] w (w3.setCell ⟨g, 2, none⟩ (.slice A m c)).drew := (((K3.out.mono (fun _ h => by cases h)).set ⟨g, 2, none⟩ (.slice A m c) (.inl (by simp))).drew)
  have hB4 : Below base w (w3.setCell ⟨g, 2, none⟩ (.slice A m c)).drew ∧ w.heap.size ≤ (w3.setCell ⟨g, 2, none⟩ (.slice A m c)).drew.heap.size := ⟨below_chg kk (fun b hb => by
    have : b = g := by simpa using hb
    subst this
    exact H.out.hg) hbase, kk.size⟩
  clear p1 p2 hob4 D kk t0 tf
  clear hbk H3 K3 HBK HOB H
  generalize (w3.setCell ⟨g, 2, none⟩ (.slice A m c)).drew = W4 at *
  have J4 := Lib.hid I4
  have J5 := Lib.hid I5
  have J6 := Lib.hid I6
  have J7 := Lib.hid p3
  have J8 := Lib.hid hB4
  have KEEP : Hid (∀ W, Chg [] W4 W → W.cell? ⟨b, 0, none⟩ = some (.int .i64 o.at_) ∧ W.cell? ⟨b, 2, none⟩ = some (.slice Av o.l.length cv)) := Lib.hid (fun W k => by
    have hb := k.at J6.out (by simp)
    exact ⟨blk_cell hb 0, blk_cell hb 2⟩)
  clear I4 I5 I6 p3 hB4
  obtain ⟨y0, y2⟩ := KEEP.out _ (Chg.refl _ _)
  go_still_tail 10, (by kernel_rfl)
  go_wp2_with fail
  refine (HP.out _ (.slice Av o.l.length cv) (J4.out.chg ((Chg.refl [] W4).drew)) (own_keep J5.out (F := []) ((Chg.refl [] W4).drew) (by simp)) J7.out).mono ?_
  rintro e w9 ⟨rfl, hst, hb9, hs9⟩
  have R1 := Lib.hid hst
  have R2 := Lib.hid hb9
  have R3 := Lib.hid hs9
  clear hst hb9 hs9
  go_wp2
  go_end0
  exact ⟨rfl, R1.out, J8.out.1.trans (show Below base W4 w9 from ⟨R2.out.os, R2.out.tape, R2.out.output, R2.out.size, R2.out.block⟩), Nat.le_trans J8.out.2 R3.out⟩
theorem close_calls (base g : Nat) (tops : List Int) (hb2 : tops.length ≤ 20000) : ∀ (n : Nat) (rs : List (Nd × Value)) (v1 : Value) (o : Pt) (b : Nat) (v : Value) (os : List (Pt × Nat × Value)) (w : World), os.length ≤ n → IsRd w base g rs tops v1 ((o, b, v) :: os) → rs.length + os.length ≤ 20000 → o.l.length ≤ 20001 → (∀ o ∈ os, o.1.l.length ≤ 20000) → os.length ≤ 1000 →
    Calls Tryd.prog 27 #[.pointer (some ⟨g, 0, none⟩)] w (PutPost w base g (putS (rs.map (·.1)) tops (os.map (·.1)) ⟨4, o.at_, 0, [], o.l⟩))
  | 0, rs, v1, o, b, v, os, w, hn, h, h1, _, h3, h4 => close_step base g rs tops v1 o b v os w h h4 (fun W Lx hI hx ha => put_calls base g rs tops v1 os ⟨4, o.at_, 0, [], o.l⟩ Lx W hI hx ha h1 hb2 h3 h4 (fun _ _ _ _ _ _ _ hlt => by omega))
  | n + 1, rs, v1, o, b, v, os, w, hn, h, h1, _, h3, h4 => close_step base g rs tops v1 o b v os w h h4 (fun W Lx hI hx ha => put_calls base g rs tops v1 os ⟨4, o.at_, 0, [], o.l⟩ Lx W hI hx ha h1 hb2 h3 h4 (fun o' b' v' os' W' v1' rs' hlt hI' k1 k2 k3 k4 => close_calls base g tops hb2 n rs' v1' o' b' v' os' W' (by omega) hI' k1 k2 k3 k4))
/-- put, at any reader -/
theorem put_all (base g : Nat) (rs : List (Nd × Value)) (tops : List Int) (v1 : Value) (os : List (Pt × Nat × Value)) (x : Nd) (Lx : Value) (w : World) (h : IsRd w base g rs tops v1 os) (hx : Ints w base Lx x.l) (hax : ∀ v ∈ v1 :: (os.map (·.2.2) ++ rs.map (·.2)), ∀ k, v.ownBlock = some k → Lx.ownBlock ≠ some k)
    (hb1 : rs.length + os.length ≤ 20000) (hb2 : tops.length ≤ 20000) (hb3 : ∀ o ∈ os, o.1.l.length ≤ 20000) (hos : os.length ≤ 1000) :
    Calls Tryd.prog 26 #[.pointer (some ⟨g, 0, none⟩), .agg (nodeC (x, Lx)).toArray] w (PutPost w base g (putS (rs.map (·.1)) tops (os.map (·.1)) x)) :=
  put_calls base g rs tops v1 os x Lx w h hx hax hb1 hb2 hb3 hos (fun o b v os' W v1' rs' _ hI k1 k2 k3 k4 => close_calls base g tops hb2 os'.length rs' v1' o b v os' W (Nat.le_refl _) hI k1 k2 k3 k4)
end Go.Proofs.YthfbkhjcnfjmmaaDoor.ReadM

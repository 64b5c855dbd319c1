/- The contract of put, with that of close at fewer; each states its conditions. -/
import Derived.Test.YthfbkhjcnfjmmaaDoorReadC1
import Derived.Test.YthfbkhjcnfjmmaaDoorAppStep
import Derived.Deep.RegionLaw
import Derived.Deep.RegionHeld3
import Derived.BigRegion
namespace Go.Proofs.YthfbkhjcnfjmmaaDoor.ReadM
open Go Go.RowKit Go.Proofs.YthfbkhjcnfjmmaaDoor.Heap Go.Proofs.YthfbkhjcnfjmmaaDoor.Own Go.Proofs.YthfbkhjcnfjmmaaDoor.ReadP
open Go.Proofs.YthfbkhjcnfjmmaaDoorW.PrintWords (Aside0 below_then below_alloc)
theorem infoNode : (Tryd.prog.info? 32).map (fun i => (i.zero, i.size, i.bytes)) = some (some (.agg #[.int .u8 0, .int .i64 0, .int .i64 0, .string ⟨#[]⟩, .slice none 0 0]), 5, 64) := by kernel_rfl
theorem infoInt : (Tryd.prog.info? 3).map (fun i => (i.zero, i.size, i.bytes)) = some (some (.int .i64 0), 1, 8) := by kernel_rfl
theorem infoPtr : (Tryd.prog.info? 50).map (fun i => (i.zero, i.size, i.bytes)) = some (some (.pointer none), 1, 8) := by kernel_rfl
/-- what a call of put or close leaves -/
def PutPost (w : World) (base g : Nat) (st : List Nd × List Int × List Pt) (e : Ending) (w' : World) : Prop :=
  e = .returned (.tuple #[]) ∧ (∃ rs v1 os, IsRd w' base g rs st.2.1 v1 os ∧ rs.map (·.1) = st.1 ∧ os.map (·.1) = st.2.2) ∧ Below base w w' ∧ w.heap.size ≤ w'.heap.size
theorem node_one (p : Nd × Value) {w : World} {base : Nat} (h : Ints w base p.2 p.1.l) : ∀ u ∈ nodeC p, u.oneCell' = true := by
  intro u hu
  obtain ⟨B, c, hB⟩ := own_slice h
  simp [nodeC] at hu
  rcases hu with rfl | rfl | rfl | rfl | rfl
  · rfl
  · rfl
  · rfl
  · rfl
  · rw [hB]; rfl
theorem below_chg {F : List Nat} {w w' : World} {base : Nat} (k : Chg F w w') (hF : ∀ b ∈ F, base ≤ b) (hb : base ≤ w.heap.size) : Below base w w' :=
  ⟨k.os, k.tape, k.output, k.size, fun b hlt => k.block b (by omega) (fun hm => by have := hF b hm; omega)⟩
theorem ints_snoc {w : World} {base c : Nat} {B : Option Addr} {l : List Int} {n : Int} (h : w.ownsRow base 3 1 (.slice B (l.length + 1) c) (l.length + 1) (nums .i64 l ++ nums .i64 [n])) : Ints w base (.slice B (l.length + 1) c) (l ++ [n]) := by
  unfold Ints
  rw [List.length_append, show nums .i64 (l ++ [n]) = nums .i64 l ++ nums .i64 [n] from by simp [nums]]
  exact h
theorem fresh_of {u v : Value} {N M : Nat} (h : u.ownBlock = v.ownBlock ∨ u.ownBlock = some N) (hM : M ≤ N) : ∀ k, u.ownBlock = some k → v.ownBlock = some k ∨ M ≤ k := by
  intro k hk
  rcases h with h | h
  · exact .inl (h ▸ hk)
  · rw [h] at hk; injection hk with hk; exact .inr (by omega)
set_option maxHeartbeats 4000000 in
set_option maxRecDepth 100000 in
theorem put_calls (base g : Nat) (rs : List (Nd × Value)) (tops : List Int) (v1 : Value) (os : List (Pt × Nat × Value)) (x : Nd) (Lx : Value) (w : World) (h : IsRd w base g rs tops v1 os) (hx : Ints w base Lx x.l) (hax : ∀ v ∈ v1 :: (os.map (·.2.2) ++ rs.map (·.2)), ∀ k, v.ownBlock = some k → Lx.ownBlock ≠ some k)
    (hb1 : rs.length + os.length ≤ 20000) (hb2 : tops.length ≤ 20000) (hb3 : ∀ o ∈ os, o.1.l.length ≤ 20000) (hos : os.length ≤ 1000)
    (hC : ∀ (o : Pt) (b : Nat) (v : Value) (os' : List (Pt × Nat × Value)) (W : World) (v1' : Value) (rs' : List (Nd × Value)), os'.length < os.length → IsRd W base g rs' tops v1' ((o, b, v) :: os') → rs'.length + os'.length ≤ 20000 → o.l.length ≤ 20001 → (∀ o ∈ os', o.1.l.length ≤ 20000) → os'.length ≤ 1000 →
      Calls Tryd.prog 27 #[.pointer (some ⟨g, 0, none⟩)] W (PutPost W base g (putS (rs'.map (·.1)) tops (os'.map (·.1)) ⟨4, o.at_, 0, [], o.l⟩))) :
    Calls Tryd.prog 26 #[.pointer (some ⟨g, 0, none⟩), .agg (nodeC (x, Lx)).toArray] w (PutPost w base g (putS (rs.map (·.1)) tops (os.map (·.1)) x)) := by
  have hone := node_one (x, Lx) hx
  obtain ⟨v0, A, c, hbk, hnd, hop⟩ := h.cells
  obtain ⟨A0, c0, rfl⟩ := own_slice hnd
  have H := Lib.hid h
  have HX := Lib.hid hx
  have HAX := Lib.hid hax
  have HC := Lib.hid hC
  have HONE := Lib.hid hone
  have hglt := blk_lt hbk
  have hnl : rs.length ≤ 20000 := by omega
  have bnl : (rs.length : Int) ≤ 20000 := by omega
  have B0 := fun W (k : Chg [] w W) => blk_cell (k.at hbk (by simp)) 0
  have F0 := fun W (k : Chg [] w W) => blk_frozen (k.at hbk (by simp)) 0
  simp at B0
  have HB0 := Lib.hid B0
  have HF0 := Lib.hid F0
  have z0 := B0 _ (Chg.refl _ _)
  have z1 := fun o => B0 _ ((Chg.refl [] w).alloc o)
  have HND := Lib.hid hnd
  have HBK := Lib.hid hbk
  have HOP := Lib.hid hop
  have hb3' := Lib.hid hb3
  clear h hx hax hC hone B0 F0 hnd hbk hop hb3
  unfold nodeC
  go_enter Tryd.func26, Tryd.ntmps26
  go_upto_region 2 with fail
  obtain ⟨W1, hW1⟩ : ∃ W1, W1 = w.alloc (.cells #[.int .u8 x.kind, .int .i64 x.pos, .int .i64 x.n, .string ⟨x.s.toArray⟩, Lx] 32) := ⟨_, rfl⟩
  have k1 : Chg [] w W1 := by rw [hW1]; exact (Chg.refl [] w).alloc _
  have hbx : W1.heap[w.heap.size]? = some (.cells #[.int .u8 x.kind, .int .i64 x.pos, .int .i64 x.n, .string ⟨x.s.toArray⟩, Lx] 32 (0, 0)) := by rw [hW1]; exact blk_new rfl
  have hsz1 : W1.heap.size = w.heap.size + 1 := by rw [hW1]; show (w.heap.push _).size = _; simp
  rw [← hW1]
  have HSZ := Lib.hid hsz1
  have K1 := Lib.hid k1
  have HBX := Lib.hid hbx
  clear hW1 z0 z1 k1 hbx hsz1
  go_cut [] (fun wx => Hid (IsRd wx base g (rs ++ [(x, Lx)]) tops v1 os) ∧ Hid (Below base w wx ∧ w.heap.size ≤ wx.heap.size))
  case first =>
    have y0 := HB0.out _ K1.out
    have y1 := fun o => HB0.out _ (K1.out.alloc o)
    have y2 := fun o => HB0.out _ ((K1.out.drew).alloc o)
    have x0 := blk_cell HBX.out 0
    have x1 := blk_cell HBX.out 1
    have x2 := blk_cell HBX.out 2
    have x3 := blk_cell HBX.out 3
    have x4 := blk_cell HBX.out 4
    simp at x0 x1 x2 x3 x4
    have hgl : base ≤ w.heap.size := by have := H.out.hg; omega
    have HG : g ∉ ob (.slice A0 rs.length c0) := fun hm => own_blk_ne HND.out HBK.out (by decide) (mem_ob.1 hm)
    go_region_law (refine app_step (W := W1.drew.alloc (.cells #[.int .u8 x.kind, .int .i64 x.pos, .int .i64 x.n, .string ⟨x.s.toArray⟩, Lx] 32)) (by rfl) (.tmp 15) (.tmp 17) 23 (by rfl) base 32 _ 5 64 Tryd.underlying23 infoNode rfl (by decide) (by decide) (.slice A0 rs.length c0) rs.length (rs.flatMap nodeC) (by rfl) (own_keep HND.out ((K1.out.drew).alloc _) (by simp)) _ 1 (nodeC (x, Lx)) (by rfl) (src_new _ _ _ _ _ _ (by rfl) rfl) HONE.out (Nat.le_trans hgl ((K1.out.drew).alloc _).size) (by omega) ?_; intro B4 c4 w4 ho4 hc4 hb4; have q0 : w4.cell? ⟨g, 0, none⟩ = some (.slice A0 rs.length c0) := hc4.cell (HB0.out _ ((K1.out.drew).alloc _)) HG; have q1 : w4.frozen? ⟨g, 0, none⟩ = false := hc4.frozen (HB0.out _ ((K1.out.drew).alloc _)) (HF0.out _ ((K1.out.drew).alloc _)) HG)
    all_goals
      have K4 := Lib.hid hc4
      have HO4 := Lib.hid ho4
      clear hc4 ho4 hb4 q0 q1
      go_wp2
      go_meet
      have kW : Chg [] w (W1.drew.alloc (.cells #[.int .u8 x.kind, .int .i64 x.pos, .int .i64 x.n, .string ⟨x.s.toArray⟩, Lx] 32)) := (K1.out.drew).alloc _
      have hbW := kW.at HBK.out (by simp)
      have hB : ∀ b, b ∈ ob (.slice A0 rs.length c0) → base ≤ b := fun b hm => (HND.out.lt b (mem_ob.1 hm)).1
      refine ⟨Lib.hid ((H.out.chg kW).put hbW K4.out x Lx HO4.out (own_keep (own_keep HX.out kW (by simp)) K4.out (fun b hb hm => own_ne HX.out HND.out (by decide) b hb (mem_ob.1 hm))) HAX.out), Lib.hid ⟨?_, ?_⟩⟩
      · exact below_chg (F := g :: ob (.slice A0 rs.length c0)) ((((kW.mono (fun _ h => by cases h)).trans K4.out (fun b hb => .inl (List.mem_cons_of_mem _ hb)))).set _ _ (.inl (List.mem_cons_self ..))) (fun b hb => by
          rcases List.mem_cons.1 hb with rfl | hb
          · exact H.out.hg
          · exact hB b hb) hgl
      · have h1 := kW.size
        have h2 := K4.out.size
        have h3 : (w4.setCell ⟨g, 0, none⟩ (.slice B4 (rs.length + 1) c4)).heap.size = w4.heap.size := by simp
        omega
  case rest =>
    obtain ⟨H2, HB2⟩ := hcut
    clear HB0 HF0 K1 HBX HSZ HX HAX HND HBK HOP H HONE
    have hbase : base ≤ wc.heap.size := by have := H2.out.hg; obtain ⟨_, _, _, hh, _, _⟩ := H2.out.cells; have := blk_lt hh; omega
    obtain ⟨v0', A', c', hbk, hnd, hop⟩ := H2.out.cells
    have HBK := Lib.hid hbk
    clear hbk hnd hop hglt
    cases os with
    | nil =>
      go_wp2_with fail
      refine (last_rd0 H2.out).mono ?_
      rintro e w3 ⟨rfl, rfl⟩
      obtain ⟨A1, c1, hv1⟩ := own_slice H2.out.top
      subst hv1
      have t0 := blk_cell HBK.out 1
      simp at t0
      have t1 := fun o => (((Chg.refl [] wc).alloc o).cell t0 (by simp))
      have HG : g ∉ ob (.slice A1 tops.length c1) := fun hm => own_blk_ne H2.out.top HBK.out (by decide) (mem_ob.1 hm)
      have tf := blk_frozen HBK.out 1
      have HT := Lib.hid t0
      have HTF := Lib.hid tf
      go_wp2_with (at_builtin; refine app rfl (.tmp 29) (.tmp 31) 24 rfl base 3 _ 1 8 Tryd.underlying24 infoInt rfl (by decide) (by decide) (.slice A1 tops.length c1) tops.length (nums .i64 tops) rfl (own_keep H2.out.top ((Chg.refl [] wc).alloc _) (by simp)) _ 1 (nums .i64 [(rs.length : Int)]) rfl (src_new (nums .i64 [(rs.length : Int)]) _ _ _ _ _ rfl (by simp)) one_nums (Nat.le_trans hbase ((Chg.refl [] wc).alloc _).size) (by omega) ?_; intro B5 c5 w5 ho5 hc5 hb5; have q0 : w5.cell? ⟨g, 1, none⟩ = some (.slice A1 tops.length c1) := hc5.cell (((Chg.refl [] wc).alloc _).cell HT.out (by simp)) HG; have q1 : w5.frozen? ⟨g, 1, none⟩ = false := hc5.frozen (((Chg.refl [] wc).alloc _).cell HT.out (by simp)) (((Chg.refl [] wc).alloc _).frozen HT.out HTF.out (by simp)) HG; have K5 := Lib.hid hc5; have HO5 := Lib.hid ho5; have HB5 := Lib.hid hb5; clear hc5 ho5 hb5)
      go_end0
      have kW : Chg [] wc (wc.alloc (.cells (nums .i64 [(rs.length : Int)]).toArray 3)) := (Chg.refl [] wc).alloc _
      have hI := ints_snoc HO5.out
      have kk : Chg (g :: ob (.slice A1 tops.length c1)) wc (w5.setCell ⟨g, 1, none⟩ (.slice B5 (tops.length + 1) c5)) := ((kW.mono (fun _ h => by cases h)).trans K5.out (fun b hb => .inl (List.mem_cons_of_mem _ hb))).set _ _ (.inl (List.mem_cons_self ..))
      refine ⟨rfl, ⟨rs ++ [(x, Lx)], .slice B5 (tops.length + 1) c5, [], ?_, by simp [putS], by simp [putS]⟩, ?_, ?_⟩
      · have := (H2.out.chg kW).tops_ K5.out (rs.length : Int) hI (fresh_of HB5.out (Nat.le_refl _))
        simpa [putS] using this
      · refine HB2.out.1.trans (below_chg kk (fun b hb => ?_) hbase)
        rcases List.mem_cons.1 hb with rfl | hb
        · exact H2.out.hg
        · exact (H2.out.top.lt b (mem_ob.1 hb)).1
      · exact Nat.le_trans HB2.out.2 kk.size
    | cons o os =>
      obtain ⟨o, b, v⟩ := o
      have hll := hb3'.out (o, b, v) (List.mem_cons_self ..)
      simp only at hll
      simp only [List.length_cons] at hb1 hos
      go_wp2_with fail
      refine (last_rd1 H2.out (by omega)).mono ?_
      rintro e w3 ⟨rfl, n3, hw3⟩
      have H3 := Lib.hid (H2.out.chg (w' := w3) (by rw [hw3]; exact (Chg.refl [] wc).draw n3))
      have KC := Lib.hid (show Chg [] wc w3 by rw [hw3]; exact (Chg.refl [] wc).draw n3)
      clear hw3
      obtain ⟨g1, g2, g3⟩ := H3.out.ops (o, b, v) (List.mem_cons_self ..)
      simp only at g1 g2 g3
      obtain ⟨Av, cv, hv⟩ := own_slice g3
      subst hv
      have GB := Lib.hid g1
      have HOB := Lib.hid g2
      have HIV := Lib.hid g3
      have t0 := blk_cell g2 2
      have t1 := blk_cell g2 1
      simp at t0 t1
      have HG : b ∉ ob (.slice Av o.l.length cv) := fun hm => own_blk_ne g3 g2 (by decide) (mem_ob.1 hm)
      have tf := blk_frozen g2 2
      have HT := Lib.hid t0
      have HT1 := Lib.hid t1
      have HTF := Lib.hid tf
      have bll : (o.l.length : Int) ≤ 20000 := by omega
      have hbase3 : base ≤ w3.heap.size := Nat.le_trans hbase KC.out.size
      clear g1 g2 g3
      go_upto_region 7 with (at_builtin; refine app rfl (.tmp 39) (.tmp 41) 24 rfl base 3 _ 1 8 Tryd.underlying24 infoInt rfl (by decide) (by decide) (.slice Av o.l.length cv) o.l.length (nums .i64 o.l) rfl (own_keep HIV.out ((Chg.refl [] w3).alloc _) (by simp)) _ 1 (nums .i64 [(rs.length : Int)]) rfl (src_new (nums .i64 [(rs.length : Int)]) _ _ _ _ _ rfl (by simp)) one_nums (Nat.le_trans hbase3 ((Chg.refl [] w3).alloc _).size) (by omega) ?_; intro B5 c5 w5 ho5 hc5 hb5; have q0 : w5.cell? ⟨b, 2, none⟩ = some (.slice Av o.l.length cv) := hc5.cell (((Chg.refl [] w3).alloc _).cell HT.out (by simp)) HG; have q1 : w5.frozen? ⟨b, 2, none⟩ = false := hc5.frozen (((Chg.refl [] w3).alloc _).cell HT.out (by simp)) (((Chg.refl [] w3).alloc _).frozen HT.out HTF.out (by simp)) HG; have q2 : w5.cell? ⟨b, 1, none⟩ = some (.bool o.quote) := hc5.cell (((Chg.refl [] w3).alloc _).cell HT1.out (by simp)) HG; have K5 := Lib.hid hc5; have HO5 := Lib.hid ho5; have HB5 := Lib.hid hb5; clear hc5 ho5 hb5)
      have kW : Chg [] w3 (w3.alloc (.cells (nums .i64 [(rs.length : Int)]).toArray 3)) := (Chg.refl [] w3).alloc _
      have H6 := (H3.out.chg kW).more K5.out (rs.length : Int) (ints_snoc HO5.out) (fresh_of HB5.out (Nat.le_refl _))
      have hB6 : Below base w (w5.setCell ⟨b, 2, none⟩ (.slice B5 (o.l.length + 1) c5)) ∧ w.heap.size ≤ (w5.setCell ⟨b, 2, none⟩ (.slice B5 (o.l.length + 1) c5)).heap.size := by
        have kk : Chg (b :: ob (.slice Av o.l.length cv)) wc (w5.setCell ⟨b, 2, none⟩ (.slice B5 (o.l.length + 1) c5)) := (((KC.out.sub kW).mono (fun _ h => by cases h)).trans K5.out (fun b hb => .inl (List.mem_cons_of_mem _ hb))).set _ _ (.inl (List.mem_cons_self ..))
        refine ⟨HB2.out.1.trans (below_chg kk (fun b' hb' => ?_) hbase), Nat.le_trans HB2.out.2 kk.size⟩
        rcases List.mem_cons.1 hb' with rfl | hb'
        · exact GB.out
        · exact (HIV.out.lt b' (mem_ob.1 hb')).1
      have HH6 := Lib.hid H6
      have HHB := Lib.hid hB6
      have hput : putS (rs.map (·.1)) tops (((o, b, Value.slice Av o.l.length cv) :: os).map (·.1)) x = if o.quote && o.l.length == 1 then putS (rs.map (·.1) ++ [x]) tops (os.map (·.1)) ⟨4, o.at_, 0, [], o.l ++ [(rs.length : Int)]⟩ else (rs.map (·.1) ++ [x], tops, ⟨o.at_, o.quote, o.l ++ [(rs.length : Int)]⟩ :: os.map (·.1)) := by
        rw [List.map_cons, putS, List.length_map]
      have HPUT := Lib.hid hput
      clear H6 hB6 hput kW hll
      by_cases hq : o.quote = true
      · by_cases hl : o.l.length = 1
        · have f1 : ((o.l.length : Int) + 1 == 2) = true := by simp; omega
          have HL1 := Lib.hid hl
          have HQ1 := Lib.hid hq
          rw [hq] at q2
          clear hl hq
          go_wp2_with fail
          refine (HC.out ⟨o.at_, o.quote, o.l ++ [(rs.length : Int)]⟩ b _ os _ v1 (rs ++ [(x, Lx)]) (by simp only [List.length_cons]; omega) HH6.out (by simp; omega) (by simp; have := HL1.out; omega) (fun o' ho' => hb3'.out o' (List.mem_cons_of_mem _ ho')) (by omega)).mono ?_
          rintro e w7 ⟨rfl, ⟨rs', v1', os', h', e1, e2⟩, hb7, hs7⟩
          have e0 : (rs ++ [(x, Lx)]).map (·.1) = rs.map (·.1) ++ [x] := by simp
          rw [e0] at h' e1 e2
          have R1 := Lib.hid h'
          have R2 := Lib.hid e1
          have R3 := Lib.hid e2
          have R4 := Lib.hid hb7
          have R5 := Lib.hid hs7
          clear h' e0 e1 e2 hb7 hs7
          go_wp2
          go_end0
          rw [HPUT.out, if_pos (by rw [HQ1.out, HL1.out]; rfl)]
          refine ⟨rfl, ⟨rs', v1', os', R1.out, ?_, ?_⟩, HHB.out.1.trans R4.out, Nat.le_trans HHB.out.2 R5.out⟩
          · exact R2.out
          · exact R3.out
        · have f1 : ((o.l.length : Int) + 1 == 2) = false := by simp; omega
          have HL1 := Lib.hid hl
          have HQ1 := Lib.hid hq
          rw [hq] at q2
          clear hl hq
          go_wp2
          go_end0
          rw [HPUT.out, if_neg (by rw [HQ1.out]; simpa using HL1.out)]
          exact ⟨rfl, ⟨_, _, _, HH6.out, by simp, by simp⟩, HHB.out.1, HHB.out.2⟩
      · have hq2 : o.quote = false := by simpa using hq
        have HQ1 := Lib.hid hq2
        rw [hq2] at q2
        clear hq hq2
        go_wp2
        go_end0
        rw [HPUT.out, if_neg (by rw [HQ1.out]; simp)]
        exact ⟨rfl, ⟨_, _, _, HH6.out, by simp, by simp⟩, HHB.out.1, HHB.out.2⟩
end Go.Proofs.YthfbkhjcnfjmmaaDoor.ReadM

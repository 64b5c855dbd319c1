import Derived.Test.YthfbkhjcnfjmmaaDoorRefR1
namespace Go.Proofs.YthfbkhjcnfjmmaaDoor.RefR
open Go Go.RowKit Go.Proofs.YthfbkhjcnfjmmaaDoor.Heap Go.Proofs.YthfbkhjcnfjmmaaDoor.ReadP Go.Proofs.YthfbkhjcnfjmmaaDoor.ReadM
open Go.Proofs.YthfbkhjcnfjmmaaDoor.Own (ob mem_ob own_slice own_keep Src add_flat app app_lit app_step own_lit0 src_new one_nums)
open Go.Proofs.YthfbkhjcnfjmmaaDoorW.PrintWords (Aside0 below_then below_alloc own_typed)
theorem infoPart : (Tryd.prog.info? 59).map (fun i => (i.zero, i.size, i.bytes)) = some (some (.agg #[.int .i64 0, .bool false, .slice none 0 0]), 3, 40) := by kernel_rfl
/-- what a call of put or close leaves -/
def PutPost (w : World) (base g : Nat) (st : List Nd × List Int × List Pt) (e : Ending) (w' : World) : Prop :=
  e = .returned (.tuple #[]) ∧ (∃ rs v1 os, IsRf w' base g rs st.2.1 v1 os ∧ rs.map (·.1) = st.1 ∧ os.map (·.1) = st.2.2) ∧ Below base w w' ∧ w.heap.size ≤ w'.heap.size
set_option maxHeartbeats 4000000 in
set_option maxRecDepth 100000 in
theorem put_calls (base g : Nat) (rs : List (Nd × Value)) (tops : List Int) (v1 : Value) (os : List (Pt × Value)) (x : Nd) (Lx : Value) (w : World) (h : IsRf w base g rs tops v1 os) (hx : Ints w base Lx x.l) (hax : ∀ v ∈ v1 :: (os.map (·.2) ++ rs.map (·.2)), ∀ k, v.ownBlock = some k → Lx.ownBlock ≠ some k)
    (hb1 : rs.length + os.length ≤ 20000) (hb2 : tops.length ≤ 20000) (hb3 : ∀ o ∈ os, o.1.l.length ≤ 20000) (hos : os.length ≤ 1000)
    (hC : ∀ (o : Pt) (v : Value) (os' : List (Pt × Value)) (W : World) (v1' : Value) (rs' : List (Nd × Value)), os'.length < os.length → IsRf W base g rs' tops v1' ((o, v) :: os') → rs'.length + os'.length ≤ 20000 → o.l.length ≤ 20001 → (∀ o ∈ os', o.1.l.length ≤ 20000) → os'.length ≤ 1000 →
      Calls Tryd.prog 33 #[.pointer (some ⟨g, 0, none⟩)] W (PutPost W base g (putS (rs'.map (·.1)) tops (os'.map (·.1)) ⟨4, o.at_, 0, [], o.l⟩))) :
    Calls Tryd.prog 32 #[.pointer (some ⟨g, 0, none⟩), .agg (nodeC (x, Lx)).toArray] w (PutPost w base g (putS (rs.map (·.1)) tops (os.map (·.1)) x)) := by
  have hone := node_one (x, Lx) hx
  obtain ⟨v0, A, c, hbk, hnd, hop⟩ := h.cells
  obtain ⟨A0, c0, rfl⟩ := own_slice hnd
  have H := Lib.hid h
  have HX := Lib.hid hx
  have HAX := Lib.hid hax
  have HC := Lib.hid hC
  have HONE := Lib.hid hone
  have hglt := blk_lt hbk
  have bnl : (rs.length : Int) ≤ 20000 := by omega
  have B0 := fun W (k : Chg [] w W) => blk_cell (k.at hbk (by simp)) 0
  have F0 := fun W (k : Chg [] w W) => blk_frozen (k.at hbk (by simp)) 0
  simp at B0
  have HB0 := Lib.hid B0
  have HF0 := Lib.hid F0
  have z0 := B0 _ (Chg.refl _ _)
  have z1 := fun o => B0 _ ((Chg.refl [] w).alloc o)
  have HND := Lib.hid hnd
  have HBK := Lib.hid hbk
  have hb3' := Lib.hid hb3
  clear h hx hax hC hone B0 F0 hnd hbk hop hb3
  unfold nodeC
  go_enter Tryd.func32, Tryd.ntmps32
  go_upto_region 1 with fail
  obtain ⟨W1, hW1⟩ : ∃ W1, W1 = w.alloc (.cells #[.int .u8 x.kind, .int .i64 x.pos, .int .i64 x.n, .string ⟨x.s.toArray⟩, Lx] 32) := ⟨_, rfl⟩
  have k1 : Chg [] w W1 := by rw [hW1]; exact (Chg.refl [] w).alloc _
  have hbx : W1.heap[w.heap.size]? = some (.cells #[.int .u8 x.kind, .int .i64 x.pos, .int .i64 x.n, .string ⟨x.s.toArray⟩, Lx] 32 (0, 0)) := by rw [hW1]; exact blk_new rfl
  have hsz1 : W1.heap.size = w.heap.size + 1 := by rw [hW1]; show (w.heap.push _).size = _; simp
  rw [← hW1]
  have HSZ := Lib.hid hsz1
  have K1 := Lib.hid k1
  have HBX := Lib.hid hbx
  clear hW1 z0 z1 k1 hbx hsz1
  go_cut [] (fun wx => Hid (IsRf wx base g (rs ++ [(x, Lx)]) tops v1 os) ∧ Hid (Below base w wx ∧ w.heap.size ≤ wx.heap.size))
  case first =>
    have y0 := HB0.out _ K1.out
    have y1 := fun o => HB0.out _ (K1.out.alloc o)
    have y2 := fun o => HB0.out _ ((K1.out.drew).alloc o)
    have x0 := blk_cell HBX.out 0
    have x1 := blk_cell HBX.out 1
    have x2 := blk_cell HBX.out 2
    have x3 := blk_cell HBX.out 3
    have x4 := blk_cell HBX.out 4
    simp at x0 x1 x2 x3 x4
    have hgl : base ≤ w.heap.size := by have := H.out.hg; omega
    have HG : g ∉ ob (.slice A0 rs.length c0) := fun hm => own_blk_ne HND.out HBK.out (by decide) (mem_ob.1 hm)
    go_region_law (refine app_step (W := W1.drew.alloc (.cells #[.int .u8 x.kind, .int .i64 x.pos, .int .i64 x.n, .string ⟨x.s.toArray⟩, Lx] 32)) (by rfl) (.tmp 10) (.tmp 12) 23 (by rfl) base 32 _ 5 64 Tryd.underlying23 infoNode rfl (by decide) (by decide) (.slice A0 rs.length c0) rs.length (rs.flatMap nodeC) (by rfl) (own_keep HND.out ((K1.out.drew).alloc _) (by simp)) _ 1 (nodeC (x, Lx)) (by rfl) (src_new _ _ _ _ _ _ (by rfl) rfl) HONE.out (Nat.le_trans hgl ((K1.out.drew).alloc _).size) (by omega) ?_; intro B4 c4 w4 ho4 hc4 hb4; have q0 : w4.cell? ⟨g, 0, none⟩ = some (.slice A0 rs.length c0) := hc4.cell (HB0.out _ ((K1.out.drew).alloc _)) HG; have q1 : w4.frozen? ⟨g, 0, none⟩ = false := hc4.frozen (HB0.out _ ((K1.out.drew).alloc _)) (HF0.out _ ((K1.out.drew).alloc _)) HG)
    all_goals
      have K4 := Lib.hid hc4
      have HO4 := Lib.hid ho4
      clear hc4 ho4 hb4 q0 q1
      go_wp2
      go_meet
      have kW : Chg [] w (W1.drew.alloc (.cells #[.int .u8 x.kind, .int .i64 x.pos, .int .i64 x.n, .string ⟨x.s.toArray⟩, Lx] 32)) := (K1.out.drew).alloc _
      have hbW := kW.at HBK.out (by simp)
      have hB : ∀ b, b ∈ ob (.slice A0 rs.length c0) → base ≤ b := fun b hm => (HND.out.lt b (mem_ob.1 hm)).1
      refine ⟨Lib.hid ((H.out.chg kW).put hbW K4.out x Lx HO4.out (own_keep (own_keep HX.out kW (by simp)) K4.out (fun b hb hm => own_ne HX.out HND.out (by decide) b hb (mem_ob.1 hm))) HAX.out), Lib.hid ⟨?_, ?_⟩⟩
      · exact below_chg (F := g :: ob (.slice A0 rs.length c0)) ((((kW.mono (fun _ h => by cases h)).trans K4.out (fun b hb => .inl (List.mem_cons_of_mem _ hb)))).set _ _ (.inl (List.mem_cons_self ..))) (fun b hb => by
          rcases List.mem_cons.1 hb with rfl | hb
          · exact H.out.hg
          · exact hB b hb) hgl
      · have h1 := kW.size
        have h2 := K4.out.size
        have h3 : (w4.setCell ⟨g, 0, none⟩ (.slice B4 (rs.length + 1) c4)).heap.size = w4.heap.size := by simp
        omega
  case rest =>
    obtain ⟨H2, HB2⟩ := hcut
    clear HB0 HF0 K1 HBX HSZ HX HAX HND HBK H HONE
    have hbase : base ≤ wc.heap.size := H2.out.base_le.1
    have b3 : (rs.length : Int) + 1 - 1 = (rs.length : Int) := by omega
    have b4 : (0 : Int) ≤ (rs.length : Int) := by omega
    cases os with
    | nil =>
      obtain ⟨v0', A', c', hbk, hnd, hop⟩ := H2.out.cells
      obtain ⟨A9, c9, hv9⟩ := own_slice hnd
      subst hv9
      rw [show (rs ++ [(x, Lx)]).length = rs.length + 1 from by simp] at hbk
      have HBK := Lib.hid hbk
      clear hnd hop hglt
      obtain ⟨A1, c1, hv1⟩ := own_slice H2.out.top
      subst hv1
      have t1 := blk_cell hbk 0
      have t2 := blk_cell hbk 2
      have t0 := blk_cell hbk 1
      simp at t0 t1 t2
      have HG : g ∉ ob (.slice A1 tops.length c1) := fun hm => own_blk_ne H2.out.top HBK.out (by decide) (mem_ob.1 hm)
      have HT := Lib.hid t0
      have HTF := Lib.hid (blk_frozen hbk 1)
      clear hbk
      go_wp2_with (at_builtin; refine app rfl (.tmp 32) (.tmp 34) 24 rfl base 3 _ 1 8 Tryd.underlying24 infoInt rfl (by decide) (by decide) (.slice A1 tops.length c1) tops.length (nums .i64 tops) rfl (own_keep H2.out.top ((Chg.refl [] wc).alloc _) (by simp)) _ 1 (nums .i64 [(rs.length : Int)]) rfl (src_new (nums .i64 [(rs.length : Int)]) _ _ _ _ _ rfl (by simp)) one_nums (Nat.le_trans hbase ((Chg.refl [] wc).alloc _).size) (by omega) ?_; intro B5 c5 w5 ho5 hc5 hb5; have q0 : w5.cell? ⟨g, 1, none⟩ = some (.slice A1 tops.length c1) := hc5.cell (((Chg.refl [] wc).alloc _).cell HT.out (by simp)) HG; have q1 : w5.frozen? ⟨g, 1, none⟩ = false := hc5.frozen (((Chg.refl [] wc).alloc _).cell HT.out (by simp)) (((Chg.refl [] wc).alloc _).frozen HT.out HTF.out (by simp)) HG; have K5 := Lib.hid hc5; have HO5 := Lib.hid ho5; have HB5 := Lib.hid hb5; clear hc5 ho5 hb5)
      go_end0
      have kW : Chg [] wc (wc.alloc (.cells (nums .i64 [(rs.length : Int)]).toArray 3)) := (Chg.refl [] wc).alloc _
      have hI := ints_snoc HO5.out
      have kk : Chg (g :: ob (.slice A1 tops.length c1)) wc (w5.setCell ⟨g, 1, none⟩ (.slice B5 (tops.length + 1) c5)) := ((kW.mono (fun _ h => by cases h)).trans K5.out (fun b hb => .inl (List.mem_cons_of_mem _ hb))).set _ _ (.inl (List.mem_cons_self ..))
      refine ⟨rfl, ⟨rs ++ [(x, Lx)], .slice B5 (tops.length + 1) c5, [], ?_, by simp [putS], by simp [putS]⟩, ?_, ?_⟩
      · have := (H2.out.chg kW).tops_ K5.out (rs.length : Int) hI (fresh_of HB5.out (Nat.le_refl _))
        simpa [putS] using this
      · refine HB2.out.1.trans (below_chg kk (fun b hb => ?_) hbase)
        rcases List.mem_cons.1 hb with rfl | hb
        · exact H2.out.hg
        · exact (H2.out.top.lt b (mem_ob.1 hb)).1
      · exact Nat.le_trans HB2.out.2 kk.size
    | cons o os =>
      obtain ⟨o, v⟩ := o
      have hll := hb3'.out (o, v) (List.mem_cons_self ..)
      simp only at hll
      simp only [List.length_cons] at hb1 hos
      obtain ⟨Av, cv, hv⟩ := own_slice (H2.out.ops (o, v) (List.mem_cons_self ..))
      simp only at hv
      subst hv
      obtain ⟨v0', gb, c', hbk, hnd, hop, hcap, ⟨cs, hgb⟩, l0, l1, l2⟩ := H2.out.last
      obtain ⟨A9, c9, hv9⟩ := own_slice hnd
      subst hv9
      rw [show (rs ++ [(x, Lx)]).length = rs.length + 1 from by simp] at hbk
      have HBK := Lib.hid hbk
      have HGB := Lib.hid hgb
      have HIV := Lib.hid (H2.out.ops (o, .slice Av o.l.length cv) (List.mem_cons_self ..))
      have HL2 := Lib.hid l2
      generalize hm : os.length = m at *
      have HM := Lib.hid hm
      have bm : (m : Int) ≤ 1000 := by omega
      have bm0 : (0 : Int) ≤ (m : Int) := by omega
      have bm1 : (m : Int) + 1 - 1 = (m : Int) := by omega
      have bm2 : (m : Int) < (m : Int) + 1 := by omega
      have bm3 : ((m : Int) + 1 == 0) = false := by simp; omega
      have t1 := blk_cell hbk 0
      have t2 := blk_cell hbk 2
      simp at t1 t2
      have HT2 := Lib.hid t2
      have bll : (o.l.length : Int) ≤ 20000 := by omega
      have HG : gb ∉ ob (.slice Av o.l.length cv) := fun hm => own_blk_ne HIV.out hgb (by decide) (mem_ob.1 hm)
      have HGv : g ∉ ob (.slice Av o.l.length cv) := fun hm => own_blk_ne HIV.out hbk (by decide) (mem_ob.1 hm)
      have KEEP : Hid (∀ W, Chg [] wc W → W.cell? ⟨g, 2, none⟩ = some (.slice (some ⟨gb, 0, none⟩) (m + 1) c') ∧ W.cell? ⟨gb, m * 3 + 2, none⟩ = some (.slice Av o.l.length cv) ∧ W.frozen? ⟨gb, m * 3 + 2, none⟩ = false) := Lib.hid (fun W k => ⟨k.cell HT2.out (by simp), k.cell HL2.out (by simp), blk_frozen (k.at HGB.out (by simp)) _⟩)
      have FIN : Hid (∀ w5 B5 c5, w5.ownsRow base 3 1 (.slice B5 (o.l.length + 1) c5) (o.l.length + 1) (nums .i64 o.l ++ nums .i64 [(rs.length : Int)]) → Chg (ob (.slice Av o.l.length cv)) (wc.drew.alloc (.cells (nums .i64 [(rs.length : Int)]).toArray 3)) w5 → ((Value.slice B5 (o.l.length + 1) c5).ownBlock = (Value.slice Av o.l.length cv).ownBlock ∨ (Value.slice B5 (o.l.length + 1) c5).ownBlock = some (wc.drew.alloc (.cells (nums .i64 [(rs.length : Int)]).toArray 3)).heap.size) →
          Hid (∃ B5' c5', IsRf (w5.setCell ⟨gb, m * 3 + 2, none⟩ (.slice B5 (o.l.length + 1) c5)) base g (rs ++ [(x, Lx)]) tops v1 ((⟨o.at_, o.quote, o.l ++ [(rs.length : Int)]⟩, .slice B5' (o.l.length + 1) c5') :: os)) ∧ Hid (Below base wc (w5.setCell ⟨gb, m * 3 + 2, none⟩ (.slice B5 (o.l.length + 1) c5)) ∧ wc.heap.size ≤ (w5.setCell ⟨gb, m * 3 + 2, none⟩ (.slice B5 (o.l.length + 1) c5)).heap.size)) := Lib.hid (fun w5 B5 c5 ho5 hc5 hb5 => by
        have kW : Chg [] wc (wc.drew.alloc (.cells (nums .i64 [(rs.length : Int)]).toArray 3)) := (Chg.refl [] wc).drew.alloc _
        have hbk' := kW.at hbk (by simp)
        rw [← hm] at hbk'
        have H6 := (H2.out.chg kW).more hbk' hc5 (rs.length : Int) (ints_snoc ho5) (fresh_of hb5 (Nat.le_refl _))
        rw [hm] at H6
        have kk : Chg (gb :: ob (.slice Av o.l.length cv)) wc (w5.setCell ⟨gb, m * 3 + 2, none⟩ (.slice B5 (o.l.length + 1) c5)) := ((kW.mono (fun _ h => by cases h)).trans hc5 (fun b hb => .inl (List.mem_cons_of_mem _ hb))).set _ _ (.inl (List.mem_cons_self ..))
        refine ⟨Lib.hid ⟨_, _, H6⟩, Lib.hid ⟨below_chg kk (fun b hb => ?_) hbase, kk.size⟩⟩
        rcases List.mem_cons.1 hb with rfl | hb
        · exact (hop.lt b rfl).1
        · exact (HIV.out.lt b (mem_ob.1 hb)).1)
      have hput : putS (rs.map (·.1)) tops (((o, Value.slice Av o.l.length cv) :: os).map (·.1)) x = if o.quote && o.l.length == 1 then putS (rs.map (·.1) ++ [x]) tops (os.map (·.1)) ⟨4, o.at_, 0, [], o.l ++ [(rs.length : Int)]⟩ else (rs.map (·.1) ++ [x], tops, ⟨o.at_, o.quote, o.l ++ [(rs.length : Int)]⟩ :: os.map (·.1)) := by
        rw [List.map_cons, putS, List.length_map]
      have HPUT := Lib.hid hput
      clear hbk hnd hop hcap hgb l0 l1 hm hput
      go_upto_region 6 with fail
      have y0 := fun o => (KEEP.out _ ((Chg.refl [] wc).alloc o)).1
      have y1 := fun o => (KEEP.out _ ((Chg.refl [] wc).drew.alloc o)).1
      have y2 := fun o => (KEEP.out _ ((Chg.refl [] wc).alloc o)).2.1
      have y3 := fun o => (KEEP.out _ ((Chg.refl [] wc).drew.alloc o)).2.1
      go_cut [] (fun wx => Hid (∃ B5 c5, IsRf wx base g (rs ++ [(x, Lx)]) tops v1 ((⟨o.at_, o.quote, o.l ++ [(rs.length : Int)]⟩, .slice B5 (o.l.length + 1) c5) :: os)) ∧ Hid (Below base wc wx ∧ wc.heap.size ≤ wx.heap.size))
      case first =>
        go_region_law (refine app_step (W := wc.drew.alloc (.cells (nums .i64 [(rs.length : Int)]).toArray 3)) (by rfl) (.tmp 56) (.tmp 58) 24 (by rfl) base 3 _ 1 8 Tryd.underlying24 infoInt rfl (by decide) (by decide) (.slice Av o.l.length cv) o.l.length (nums .i64 o.l) (by rfl) (own_keep HIV.out ((Chg.refl [] wc).drew.alloc _) (by simp)) _ 1 (nums .i64 [(rs.length : Int)]) (by rfl) (src_new (nums .i64 [(rs.length : Int)]) _ _ _ _ _ (by rfl) (by simp)) one_nums (Nat.le_trans hbase ((Chg.refl [] wc).drew.alloc _).size) (by omega) ?_; intro B5 c5 w5 ho5 hc5 hb5; have q0 : w5.cell? ⟨gb, m * 3 + 2, none⟩ = some (.slice Av o.l.length cv) := hc5.cell (KEEP.out _ ((Chg.refl [] wc).drew.alloc _)).2.1 HG; have q1 : w5.frozen? ⟨gb, m * 3 + 2, none⟩ = false := hc5.frozen (KEEP.out _ ((Chg.refl [] wc).drew.alloc _)).2.1 (KEEP.out _ ((Chg.refl [] wc).drew.alloc _)).2.2 HG; have q2 : w5.cell? ⟨g, 2, none⟩ = some (.slice (some ⟨gb, 0, none⟩) (m + 1) c') := hc5.cell (KEEP.out _ ((Chg.refl [] wc).drew.alloc _)).1 HGv)
        all_goals
          go_wp2
          go_meet
          exact FIN.out _ _ _ ho5 hc5 hb5
      case rest =>
        obtain ⟨⟨B5, c5, hI⟩, hB⟩ := hcut
        rename World => wd
        have HH6 := Lib.hid hI
        have HHB := Lib.hid (show Below base w wd ∧ w.heap.size ≤ wd.heap.size from ⟨HB2.out.1.trans hB.1, Nat.le_trans HB2.out.2 hB.2⟩)
        obtain ⟨v0'', gb', c'', hbk, hnd, hop, hcap, _, l0, l1, l2⟩ := HH6.out.last
        rw [HM.out] at hbk l0 l1 l2
        have t2' := blk_cell hbk 2
        simp at t2'
        clear hbk hnd hop hcap l0 hI hB y0 y1 y2 y3 KEEP FIN HT2 HGB HL2 HIV HG HGv H2 HB2 t1 t2
        by_cases hq : o.quote = true
        · by_cases hl : o.l.length = 1
          · have f1 : ((o.l.length : Int) + 1 == 2) = true := by simp; omega
            have HL1 := Lib.hid hl
            have HQ1 := Lib.hid hq
            rw [hq] at l1
            clear hl hq
            go_wp2_with fail
            refine (HC.out ⟨o.at_, o.quote, o.l ++ [(rs.length : Int)]⟩ _ os _ v1 (rs ++ [(x, Lx)]) (by simp only [List.length_cons]; omega) HH6.out (by have := HM.out; simp; omega) (by simp; have := HL1.out; omega) (fun o' ho' => hb3'.out o' (List.mem_cons_of_mem _ ho')) (by have := HM.out; omega)).mono ?_
            rintro e w7 ⟨rfl, ⟨rs', v1', os', h', e1, e2⟩, hb7, hs7⟩
            have e0 : (rs ++ [(x, Lx)]).map (·.1) = rs.map (·.1) ++ [x] := by simp
            rw [e0] at h' e1 e2
            have R1 := Lib.hid h'
            have R2 := Lib.hid e1
            have R3 := Lib.hid e2
            have R4 := Lib.hid hb7
            have R5 := Lib.hid hs7
            clear h' e0 e1 e2 hb7 hs7
            go_wp2
            go_end0
            rw [HPUT.out, if_pos (by rw [HQ1.out, HL1.out]; rfl)]
            refine ⟨rfl, ⟨rs', v1', os', R1.out, ?_, ?_⟩, HHB.out.1.trans R4.out, Nat.le_trans HHB.out.2 R5.out⟩
            · exact R2.out
            · exact R3.out
          · have f1 : ((o.l.length : Int) + 1 == 2) = false := by simp; omega
            have HL1 := Lib.hid hl
            have HQ1 := Lib.hid hq
            rw [hq] at l1
            clear hl hq
            go_wp2
            go_end0
            rw [HPUT.out, if_neg (by rw [HQ1.out]; simpa using HL1.out)]
            exact ⟨rfl, ⟨_, _, _, HH6.out, by simp, by simp⟩, HHB.out.1, HHB.out.2⟩
        · have hq2 : o.quote = false := by simpa using hq
          have HQ1 := Lib.hid hq2
          rw [hq2] at l1
          clear hq hq2
          go_wp2
          go_end0
          rw [HPUT.out, if_neg (by rw [HQ1.out]; simp)]
          exact ⟨rfl, ⟨_, _, _, HH6.out, by simp, by simp⟩, HHB.out.1, HHB.out.2⟩
end Go.Proofs.YthfbkhjcnfjmmaaDoor.RefR

import Derived.Test.YthfbkhjcnfjmmaaDoorRefR3
namespace Go.Proofs.YthfbkhjcnfjmmaaDoor.RefR
open Go Go.RowKit Go.Proofs.YthfbkhjcnfjmmaaDoor.Heap Go.Proofs.YthfbkhjcnfjmmaaDoor.ReadP Go.Proofs.YthfbkhjcnfjmmaaDoor.LexP
open Go.Proofs.YthfbkhjcnfjmmaaDoor.ReadM (Ints Nodes Apart nodeC own_ne own_blk_ne ints_nil two_cells below_chg below_chg0 apart_nil tokV)
open Go.Proofs.YthfbkhjcnfjmmaaDoor.Own (ob mem_ob own_slice own_keep Src app_step src_new one_nums)
open Go.Proofs.YthfbkhjcnfjmmaaDoorW.PrintWords (Aside0 below_then below_alloc own_typed)
/-- what a call of token leaves -/
def TokPost (w : World) (base g : Nat) (x : Except Int (List Nd × List Int × List Pt)) (e : Ending) (w' : World) : Prop := match x with
  | .error er => e = .returned (.int .i64 er) ∧ Chg [] w w'
  | .ok st => e = .returned (.int .i64 0) ∧ (∃ rs v1 os, IsRf w' base g rs st.2.1 v1 os ∧ rs.map (·.1) = st.1 ∧ os.map (·.1) = st.2.2) ∧ Below base w w'
/-- is what was opened last a quote? -/
def lastQ : List (Pt × Value) → Bool
  | [] => false
  | o :: _ => o.1.quote
set_option maxHeartbeats 4000000 in
set_option maxRecDepth 100000 in
theorem token_all (base g k : Nat) (rs : List (Nd × Value)) (tops : List Int) (v1 : Value) (os : List (Pt × Value)) (t : Tok) (w : World) (h : IsRf w base g rs tops v1 os) (hk : 1 ≤ t.kind ∧ t.kind ≤ 6) (hi : Inv k (rs.map (·.1), tops, os.map (·.1))) (hk2 : k ≤ 4001) :
    Calls Tryd.prog 22 #[.pointer (some ⟨g, 0, none⟩), tokV t] w (TokPost w base g (tokS (rs.map (·.1), tops, os.map (·.1)) t)) := by
  obtain ⟨i1, i2, i3, i4⟩ := hi
  simp only [List.length_map] at i1 i2 i3 i4
  have hb1 : rs.length + os.length ≤ 19999 := by omega
  have hb2 : tops.length ≤ 20000 := by omega
  have hb3 : ∀ o ∈ os, o.1.l.length ≤ 20000 := fun o ho => by
    have := i4 o.1 (List.mem_map_of_mem ho)
    omega
  have hos : os.length ≤ 1000 := by omega
  have hbase := h.base_le.1
  have H := Lib.hid h
  have HB3 := Lib.hid hb3
  clear i1 i2 i3 i4 hk2 hb3
  obtain ⟨kd, pos, n, s⟩ := t
  simp only at hk
  generalize hans : tokS (rs.map (·.1), tops, os.map (·.1)) ⟨kd, pos, n, s⟩ = ans
  have HANS := Lib.hid hans
  clear hans
  unfold tokV
  go_enter Tryd.func22, Tryd.ntmps22
  go_upto_region 1 with fail
  go_cut [5] (fun t5 wx => t5 = .bool (lastQ os) ∧ Hid (∃ m, wx = (w.alloc (.cells #[.int .u8 kd, .int .i64 pos, .int .i64 n, .string ⟨s.toArray⟩] 48)).drewN m))
  case first =>
    cases os with
    | nil =>
      obtain ⟨v0, A, c, hbk, _, _⟩ := h.cells
      have t0 := blk_cell hbk 2
      simp at t0
      have z1 := fun o => (((Chg.refl [] w).alloc o).cell t0 (by simp))
      have f0 : decide ((0 : Int) < (([] : List (Pt × Value)).length : Int)) = false := rfl
      clear h hbk
      go_quiet (fail)
      go_wp2
      go_meet
      exact ⟨rfl, Lib.hid ⟨_, rfl⟩⟩
    | cons o os =>
      obtain ⟨o, v⟩ := o
      obtain ⟨v0, gb, c, hbk, _, _, _, _, l0, l1, l2⟩ := h.last
      have t0 := blk_cell hbk 2
      simp at t0
      have z1 := fun o => (((Chg.refl [] w).alloc o).cell t0 (by simp))
      have z2 := fun o => (((Chg.refl [] w).alloc o).cell l1 (by simp))
      simp only [List.length_cons] at hos
      generalize hm : os.length = m at *
      have f0 : decide ((0 : Int) < (m : Int) + 1) = true := decide_eq_true (by omega)
      have f1 : decide (0 < m + 1) = true := decide_eq_true (by omega)
      have b0 : (0 : Int) ≤ (m : Int) := by omega
      have b1 : (m : Int) < 1001 := by omega
      have b4 : (m : Int) < (m : Int) + 1 := by omega
      have e1 : (m : Int) + 1 - 1 = (m : Int) := by omega
      have w3 : IntKind.i64.wrap (m : Int) = (m : Int) := IntWalk.i64_in _ (by omega)
      have w1 : IntKind.i64.wrap ((m : Int) + 1 - 1) = (m : Int) := by rw [IntWalk.i64_in _ (by omega)]; omega
      have w2 : IntKind.i64.wrap (((m + 1 : Nat) : Int) - 1) = (m : Int) := by rw [IntWalk.i64_in _ (by omega)]; omega
      have b5 : (m : Int) < ((m + 1 : Nat) : Int) := by omega
      clear h hbk l0 l2 hos hm
      go_quiet (fail)
      go_wp2
      go_meet
      exact ⟨rfl, Lib.hid ⟨_, rfl⟩⟩
  case rest =>
    obtain ⟨rfl, hw⟩ := hcut
    have K1 : Hid (Chg [] w wc) := Lib.hid (by obtain ⟨m, hm⟩ := hw.out; rw [hm]; exact ((Chg.refl [] w).alloc _).draw m)
    have HBX : Hid (wc.heap[w.heap.size]? = some (.cells #[.int .u8 kd, .int .i64 pos, .int .i64 n, .string ⟨s.toArray⟩] 48 (0, 0))) := Lib.hid (by obtain ⟨m, hm⟩ := hw.out; rw [hm]; exact (((Chg.refl [] _).draw m).at (blk_new rfl) (by simp)))
    have x0 := blk_cell HBX.out 0
    have x1 := blk_cell HBX.out 1
    have x2 := blk_cell HBX.out 2
    have x3 := blk_cell HBX.out 3
    simp at x0 x1 x2 x3
    have HI := Lib.hid (h.chg K1.out)
    have PC : Hid (∀ x : Nd, x.l = [] → Calls Tryd.prog 32 #[.pointer (some ⟨g, 0, none⟩), .agg (nodeC (x, .slice none 0 0)).toArray] wc (PutPost wc base g (putS (rs.map (·.1)) tops (os.map (·.1)) x))) := Lib.hid (fun x hl => put_all base g rs tops v1 os x (.slice none 0 0) wc HI.out (by rw [hl]; exact ints_nil _ _) (apart_nil _) (by omega) hb2 HB3.out hos)
    clear h hw
    have hc : kd = 4 ∨ kd = 5 ∨ kd = 6 ∨ kd = 2 ∨ (kd = 1 ∨ kd = 3) := by omega
    clear hk
    rcases hc with hc | hc | hc | hc | hc
    · subst hc
      have ha : ans = .ok (putS (rs.map (·.1)) tops (os.map (·.1)) ⟨1, pos, n, [], []⟩) := by rw [← show tokS _ _ = ans from HANS]; rfl
      have HA := Lib.hid ha
      clear ha
      go_wp2_with fail
      refine (PC.out ⟨1, pos, n, [], []⟩ rfl).mono ?_
      rintro e w2 ⟨rfl, hst, hb, _⟩
      have R1 := Lib.hid hst
      have R2 := Lib.hid hb
      clear hst hb
      go_wp2_with fail
      go_ret
      rw [show ans = _ from HA]
      exact ⟨rfl, R1.out, (below_chg0 K1.out hbase).trans R2.out⟩
    · subst hc
      have ha : ans = .ok (putS (rs.map (·.1)) tops (os.map (·.1)) ⟨2, pos, n, [], []⟩) := by rw [← show tokS _ _ = ans from HANS]; rfl
      have HA := Lib.hid ha
      clear ha
      go_wp2_with fail
      refine (PC.out ⟨2, pos, n, [], []⟩ rfl).mono ?_
      rintro e w2 ⟨rfl, hst, hb, _⟩
      have R1 := Lib.hid hst
      have R2 := Lib.hid hb
      clear hst hb
      go_wp2_with fail
      go_ret
      rw [show ans = _ from HA]
      exact ⟨rfl, R1.out, (below_chg0 K1.out hbase).trans R2.out⟩
    · subst hc
      have ha : ans = .ok (putS (rs.map (·.1)) tops (os.map (·.1)) ⟨3, pos, 0, s, []⟩) := by rw [← show tokS _ _ = ans from HANS]; rfl
      have HA := Lib.hid ha
      clear ha
      go_wp2_with fail
      refine (PC.out ⟨3, pos, 0, s, []⟩ rfl).mono ?_
      rintro e w2 ⟨rfl, hst, hb, _⟩
      have R1 := Lib.hid hst
      have R2 := Lib.hid hb
      clear hst hb
      go_wp2_with fail
      go_ret
      rw [show ans = _ from HA]
      exact ⟨rfl, R1.out, (below_chg0 K1.out hbase).trans R2.out⟩
    · subst hc
      cases os with
      | nil =>
        have ha : ans = .error 61 := by rw [← show tokS _ _ = ans from HANS]; rfl
        have HA := Lib.hid ha
        obtain ⟨v0, A, c, hbk, _, _⟩ := HI.out.cells
        have t0 := blk_cell hbk 2
        simp at t0
        rw [show lastQ [] = false from rfl]
        clear ha hbk
        go_wp2_with fail
        go_ret
        rw [show ans = _ from HA]
        exact ⟨rfl, K1.out⟩
      | cons o os =>
        obtain ⟨o, v⟩ := o
        obtain ⟨v0, gb, c, hbk, _, _, _, _, l0, l1, l2⟩ := HI.out.last
        have t0 := blk_cell hbk 2
        simp at t0
        simp only [List.length_cons] at hos hb1
        have f0 : ((os.length : Int) + 1 == 0) = false := by simp; omega
        clear hbk l0 l1 l2
        by_cases hq : o.quote = true
        · have ha : ans = .error 63 := by
            rw [← show tokS _ _ = ans from HANS]
            unfold tokS
            rw [if_neg (by simp), if_neg (by simp), if_neg (by simp), if_pos rfl]
            simp [hq]
          have HA := Lib.hid ha
          rw [show lastQ ((o, v) :: os) = true from hq]
          clear ha hq
          go_wp2_with fail
          go_ret
          rw [show ans = _ from HA]
          exact ⟨rfl, K1.out⟩
        · have hq2 : o.quote = false := by simpa using hq
          have ha : ans = .ok (putS (rs.map (·.1)) tops (os.map (·.1)) ⟨4, o.at_, 0, [], o.l⟩) := by
            rw [← show tokS _ _ = ans from HANS]
            unfold tokS
            rw [if_neg (by simp), if_neg (by simp), if_neg (by simp), if_pos rfl]
            simp [hq2]
          have HA := Lib.hid ha
          have CC := Lib.hid (close_calls base g tops hb2 os.length rs v1 o v os wc (Nat.le_refl _) HI.out (by omega) (by have := HB3.out _ (List.mem_cons_self ..); simp only at this; omega) (fun o' ho' => HB3.out o' (List.mem_cons_of_mem _ ho')) (by omega))
          rw [show lastQ ((o, v) :: os) = false from hq2]
          clear ha hq hq2
          go_wp2_with fail
          refine CC.out.mono ?_
          rintro e w2 ⟨rfl, hst, hb, _⟩
          have R1 := Lib.hid hst
          have R2 := Lib.hid hb
          clear hst hb
          go_wp2_with fail
          go_ret
          rw [show ans = _ from HA]
          exact ⟨rfl, R1.out, (below_chg0 K1.out hbase).trans R2.out⟩
    · obtain ⟨v0, A, c, hbk, hnd, hop⟩ := HI.out.cells
      have HBK := Lib.hid hbk
      have HOP := Lib.hid hop
      have t0 := blk_cell hbk 2
      simp at t0
      by_cases hd : 50 ≤ os.length
      · have ha : ans = .error 62 := by
          rw [← show tokS _ _ = ans from HANS]
          unfold tokS
          simp only [List.length_map]
          rcases hc with rfl | rfl
          · rw [if_neg (by simp), if_neg (by simp), if_neg (by simp), if_neg (by simp), if_pos hd]
          · rw [if_neg (by simp), if_neg (by simp), if_neg (by simp), if_neg (by simp), if_pos hd]
        have HA := Lib.hid ha
        have c1 : decide (50 ≤ (os.length : Int)) = true := decide_eq_true (by omega)
        have c1' : decide (50 ≤ os.length) = true := decide_eq_true hd
        clear ha hbk hnd hop hd HANS
        rcases hc with rfl | rfl
        all_goals
          go_wp2_with fail
          go_ret
          rw [show ans = _ from HA]
          exact ⟨rfl, K1.out⟩
      · have c1 : decide (50 ≤ (os.length : Int)) = false := decide_eq_false (by omega)
        have c1' : decide (50 ≤ os.length) = false := decide_eq_false hd
        have hG : g ∉ ob (.slice A os.length c) := fun hm => own_blk_ne hop hbk (by decide) (mem_ob.1 hm)
        have HG := Lib.hid hG
        have hbc : base ≤ wc.heap.size := HI.out.base_le.1
        have KEEP : Hid (∀ W, Chg [] wc W → W.cell? ⟨g, 2, none⟩ = some (.slice A os.length c) ∧ W.frozen? ⟨g, 2, none⟩ = false ∧ W.cell? ⟨w.heap.size, 0, none⟩ = some (.int .u8 kd) ∧ W.cell? ⟨w.heap.size, 1, none⟩ = some (.int .i64 pos)) := Lib.hid (fun W k => ⟨k.cell t0 (by simp), blk_frozen (k.at HBK.out (by simp)) _, k.cell x0 (by simp), k.cell x1 (by simp)⟩)
        have z0 := fun o => (KEEP.out _ ((Chg.refl [] wc).alloc o)).1
        have z1 := fun o => (KEEP.out _ ((Chg.refl [] wc).alloc o)).2.2.1
        have z2 := fun o => (KEEP.out _ ((Chg.refl [] wc).alloc o)).2.2.2
        have z3 := fun o => (KEEP.out _ ((Chg.refl [] wc).drew.alloc o)).1
        have z4 := fun o => (KEEP.out _ ((Chg.refl [] wc).drew.alloc o)).2.2.1
        have z5 := fun o => (KEEP.out _ ((Chg.refl [] wc).drew.alloc o)).2.2.2
        clear hbk hop hnd hG
        rcases hc with rfl | rfl
        · have ha : ans = .ok (rs.map (·.1), tops, ⟨pos, false, []⟩ :: os.map (·.1)) := by
            rw [← show tokS _ _ = ans from HANS]
            unfold tokS
            simp only [List.length_map]
            rw [if_neg (by simp), if_neg (by simp), if_neg (by simp), if_neg (by simp), if_neg (by omega), if_neg (by simp)]
          have HA := Lib.hid ha
          clear ha HANS
          go_upto_region 13 with fail
          go_cut [] (fun wx => Hid (IsRf wx base g rs tops v1 ((⟨pos, false, []⟩, .slice none 0 0) :: os)) ∧ Hid (Below base wc wx) ∧ Hid (wx.heap[w.heap.size]? = some (.cells #[.int .u8 1, .int .i64 pos, .int .i64 n, .string ⟨s.toArray⟩] 48 (0, 0))))
          case first =>
            go_region_law (refine app_step (W := wc.drew.alloc (.cells #[.int .i64 pos, .bool false, .slice none 0 0] 59)) (by rfl) (.tmp 69) (.tmp 76) 55 (by rfl) base 59 _ 3 40 Tryd.underlying55 infoPart rfl (by decide) (by decide) (.slice A os.length c) os.length (os.reverse.flatMap partC) (by rfl) (own_keep HOP.out ((Chg.refl [] wc).drew.alloc _) (by simp)) _ 1 [.int .i64 pos, .bool false, .slice none 0 0] (by rfl) (src_new _ _ _ _ _ _ (by rfl) (by simp)) (by simp [Value.oneCell']) (Nat.le_trans hbc ((Chg.refl [] wc).drew.alloc _).size) (by omega) ?_; intro B4 c4 w4 ho4 hc4 hb4; have q0 : w4.cell? ⟨g, 2, none⟩ = some (.slice A os.length c) := hc4.cell (KEEP.out _ ((Chg.refl [] wc).drew.alloc _)).1 HG.out; have q1 : w4.frozen? ⟨g, 2, none⟩ = false := hc4.frozen (KEEP.out _ ((Chg.refl [] wc).drew.alloc _)).1 (KEEP.out _ ((Chg.refl [] wc).drew.alloc _)).2.1 HG.out)
            all_goals
              go_wp2
              go_meet
              have K4 := Lib.hid hc4
              have HO4 := Lib.hid ho4
              clear hc4 ho4 hb4 q0 q1 z0 z1 z2 z3 z4 z5
              have kW : Chg [] wc (wc.drew.alloc (.cells #[.int .i64 pos, .bool false, .slice none 0 0] 59)) := (Chg.refl [] wc).drew.alloc _
              have kk : Chg (g :: ob (.slice A os.length c)) wc (w4.setCell ⟨g, 2, none⟩ (.slice B4 (os.length + 1) c4)) := ((kW.mono (fun _ h => by cases h)).trans K4.out (fun b hb => .inl (List.mem_cons_of_mem _ hb))).set _ _ (.inl (List.mem_cons_self ..))
              refine ⟨Lib.hid ((HI.out.chg kW).push (kW.at HBK.out (by simp)) K4.out ⟨pos, false, []⟩ rfl HO4.out), Lib.hid (below_chg kk (fun b hb => ?_) hbc), Lib.hid ?_⟩
              · rcases List.mem_cons.1 hb with rfl | hb
                · exact H.out.hg
                · exact (HOP.out.lt b (mem_ob.1 hb)).1
              · have h1 := kW.at HBX.out (by simp)
                have h2 := K4.out.at h1 (fun hm => own_blk_ne (own_keep HOP.out kW (by simp)) h1 (by decide) (mem_ob.1 hm))
                have hgl := H.out.base_le.2
                exact blk_far h2 (p := ⟨g, 2, none⟩) (by show w.heap.size ≠ g; omega) (.slice B4 (os.length + 1) c4)
          case rest =>
            rename World => wd
            obtain ⟨HI2, HB2, HX2⟩ := hcut
            have hx0 := blk_cell HX2.out 0
            have hx1 := blk_cell HX2.out 1
            simp at hx0 hx1
            have hB1 := Lib.hid ((below_chg0 K1.out hbase).trans HB2.out)
            clear HB2 KEEP x0 x1 x2 x3 z0 z1 z2 z3 z4 z5 H HBK HOP HG t0
            go_wp2_with fail
            go_ret
            rw [show ans = _ from HA]
            exact ⟨rfl, ⟨_, _, _, HI2.out, rfl, rfl⟩, hB1.out⟩
        · have ha : ans = .ok (putS (rs.map (·.1)) tops (⟨pos, true, []⟩ :: os.map (·.1)) ⟨3, pos, 0, quoteL, []⟩) := by
            rw [← show tokS _ _ = ans from HANS]
            unfold tokS
            simp only [List.length_map]
            rw [if_neg (by simp), if_neg (by simp), if_neg (by simp), if_neg (by simp), if_neg (by omega), if_pos (by simp)]
          have HA := Lib.hid ha
          clear ha HANS
          go_upto_region 13 with fail
          go_cut [] (fun wx => Hid (IsRf wx base g rs tops v1 ((⟨pos, true, []⟩, .slice none 0 0) :: os)) ∧ Hid (Below base wc wx) ∧ Hid (wx.heap[w.heap.size]? = some (.cells #[.int .u8 3, .int .i64 pos, .int .i64 n, .string ⟨s.toArray⟩] 48 (0, 0))))
          case first =>
            go_region_law (refine app_step (W := wc.drew.alloc (.cells #[.int .i64 pos, .bool true, .slice none 0 0] 59)) (by rfl) (.tmp 69) (.tmp 76) 55 (by rfl) base 59 _ 3 40 Tryd.underlying55 infoPart rfl (by decide) (by decide) (.slice A os.length c) os.length (os.reverse.flatMap partC) (by rfl) (own_keep HOP.out ((Chg.refl [] wc).drew.alloc _) (by simp)) _ 1 [.int .i64 pos, .bool true, .slice none 0 0] (by rfl) (src_new _ _ _ _ _ _ (by rfl) (by simp)) (by simp [Value.oneCell']) (Nat.le_trans hbc ((Chg.refl [] wc).drew.alloc _).size) (by omega) ?_; intro B4 c4 w4 ho4 hc4 hb4; have q0 : w4.cell? ⟨g, 2, none⟩ = some (.slice A os.length c) := hc4.cell (KEEP.out _ ((Chg.refl [] wc).drew.alloc _)).1 HG.out; have q1 : w4.frozen? ⟨g, 2, none⟩ = false := hc4.frozen (KEEP.out _ ((Chg.refl [] wc).drew.alloc _)).1 (KEEP.out _ ((Chg.refl [] wc).drew.alloc _)).2.1 HG.out)
            all_goals
              go_wp2
              go_meet
              have K4 := Lib.hid hc4
              have HO4 := Lib.hid ho4
              clear hc4 ho4 hb4 q0 q1 z0 z1 z2 z3 z4 z5
              have kW : Chg [] wc (wc.drew.alloc (.cells #[.int .i64 pos, .bool true, .slice none 0 0] 59)) := (Chg.refl [] wc).drew.alloc _
              have kk : Chg (g :: ob (.slice A os.length c)) wc (w4.setCell ⟨g, 2, none⟩ (.slice B4 (os.length + 1) c4)) := ((kW.mono (fun _ h => by cases h)).trans K4.out (fun b hb => .inl (List.mem_cons_of_mem _ hb))).set _ _ (.inl (List.mem_cons_self ..))
              refine ⟨Lib.hid ((HI.out.chg kW).push (kW.at HBK.out (by simp)) K4.out ⟨pos, true, []⟩ rfl HO4.out), Lib.hid (below_chg kk (fun b hb => ?_) hbc), Lib.hid ?_⟩
              · rcases List.mem_cons.1 hb with rfl | hb
                · exact H.out.hg
                · exact (HOP.out.lt b (mem_ob.1 hb)).1
              · have h1 := kW.at HBX.out (by simp)
                have h2 := K4.out.at h1 (fun hm => own_blk_ne (own_keep HOP.out kW (by simp)) h1 (by decide) (mem_ob.1 hm))
                have hgl := H.out.base_le.2
                exact blk_far h2 (p := ⟨g, 2, none⟩) (by show w.heap.size ≠ g; omega) (.slice B4 (os.length + 1) c4)
          case rest =>
            rename World => wd
            obtain ⟨HI2, HB2, HX2⟩ := hcut
            have hx0 := blk_cell HX2.out 0
            have hx1 := blk_cell HX2.out 1
            simp at hx0 hx1
            have hB1 := Lib.hid ((below_chg0 K1.out hbase).trans HB2.out)
            clear HB2 KEEP x0 x1 x2 x3 z0 z1 z2 z3 z4 z5 H HBK HOP HG t0
            have PC2 := Lib.hid (put_all base g rs tops v1 ((⟨pos, true, []⟩, .slice none 0 0) :: os) ⟨3, pos, 0, quoteL, []⟩ (.slice none 0 0) _ HI2.out (ints_nil _ _) (apart_nil _) (by simp only [List.length_cons]; omega) hb2 (fun o ho => by
              rcases List.mem_cons.1 ho with rfl | ho
              · exact Nat.zero_le _
              · exact HB3.out o ho) (by simp only [List.length_cons]; omega))
            go_wp2_with fail
            refine PC2.out.mono ?_
            rintro e w2 ⟨rfl, hst, hb, _⟩
            have R1 := Lib.hid hst
            have R2 := Lib.hid hb
            clear hst hb
            go_wp2_with fail
            go_ret
            rw [show ans = _ from HA]
            exact ⟨rfl, R1.out, hB1.out.trans R2.out⟩
end Go.Proofs.YthfbkhjcnfjmmaaDoor.RefR

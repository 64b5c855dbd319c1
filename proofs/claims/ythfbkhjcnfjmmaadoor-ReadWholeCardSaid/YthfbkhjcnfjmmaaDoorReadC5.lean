/- The contract of token where it opens; each states its conditions. -/
import Derived.Test.YthfbkhjcnfjmmaaDoorReadC4
namespace Go.Proofs.YthfbkhjcnfjmmaaDoor.ReadM
open Go Go.RowKit Go.Proofs.YthfbkhjcnfjmmaaDoor.Heap Go.Proofs.YthfbkhjcnfjmmaaDoor.Own Go.Proofs.YthfbkhjcnfjmmaaDoor.ReadP Go.Proofs.YthfbkhjcnfjmmaaDoor.LexP
open Go.Proofs.YthfbkhjcnfjmmaaDoorW.PrintWords (Aside0 below_then below_alloc)
set_option maxHeartbeats 4000000 in
set_option maxRecDepth 100000 in
/-- a token that opens -/
theorem token_open (base g : Nat) (rs : List (Nd × Value)) (tops : List Int) (v1 : Value) (os : List (Pt × Nat × Value)) (q : Bool) (pos n : Int) (s : List UInt8) (w : World) (h : IsRd w base g rs tops v1 os) (hd : os.length < 50)
    (hb1 : rs.length + os.length ≤ 19999) (hb2 : tops.length ≤ 20000) (hb3 : ∀ o ∈ os, o.1.l.length ≤ 20000) :
    Calls Tryd.prog 19 #[.pointer (some ⟨g, 0, none⟩), tokV ⟨if q then 3 else 1, pos, n, s⟩] w (TokPost w base g (tokS (rs.map (·.1), tops, os.map (·.1)) ⟨if q then 3 else 1, pos, n, s⟩)) := by
  have hbase := h.base_le.1
  obtain ⟨v0, A, c, hbk, hnd, hop⟩ := h.cells
  have HBK := Lib.hid hbk
  have HOP := Lib.hid hop
  have H := Lib.hid h
  have hL := Lib.hid (fun (W : World) (k : Chg [] w W) => last_any (h.chg k) (by omega))
  have hlt := fun o (ho : o ∈ os) => blk_lt (h.ops o ho).2.1
  have HLT := Lib.hid hlt
  have hb3' := Lib.hid hb3
  have hx : tokS (rs.map (·.1), tops, os.map (·.1)) ⟨if q then 3 else 1, pos, n, s⟩ = .ok (if q then putS (rs.map (·.1)) tops (⟨pos, true, []⟩ :: os.map (·.1)) ⟨3, pos, 0, quoteL, []⟩ else (rs.map (·.1), tops, ⟨pos, false, []⟩ :: os.map (·.1))) := by
    unfold tokS
    simp only [List.length_map]
    cases q
    · rw [if_neg (by simp), if_neg (by simp), if_neg (by simp), if_neg (by simp), if_neg (by omega), if_neg (by simp)]; simp
    · rw [if_neg (by simp), if_neg (by simp), if_neg (by simp), if_neg (by simp), if_neg (by omega), if_pos (by simp)]; simp
  rw [hx]
  unfold tokV
  have c1 : decide (50 ≤ (os.length : Int)) = false := decide_eq_false (by omega)
  have c1' : decide (50 ≤ os.length) = false := decide_eq_false (by omega)
  have hG : g ∉ ob (.slice A os.length c) := fun hm => own_blk_ne hop hbk (by decide) (mem_ob.1 hm)
  have HG := Lib.hid hG
  have bol : (os.length : Int) < 50 := by omega
  clear h hbk hop hnd hx hlt hb3 hG
  have key : ∀ kd : Int, (kd = if q then 3 else 1) → (kd == 3) = q ∧ (kd == 4) = false ∧ (kd == 5) = false ∧ (kd == 6) = false ∧ (kd == 2) = false := by
    intro kd hkd; subst hkd; cases q <;> decide
  obtain ⟨kd, hkd⟩ : ∃ kd : Int, kd = if q then 3 else 1 := ⟨_, rfl⟩
  rw [← hkd]
  obtain ⟨k3, k4, k5, k6, k2⟩ := key kd hkd
  clear key hkd
  go_enter Tryd.func19, Tryd.ntmps19
  go_wp2_with fail
  refine (hL.out _ ((Chg.refl [] w).alloc _)).mono ?_
  rintro e w1 ⟨rfl, k1⟩
  have hbx := k1.at (blk_new rfl) (by simp)
  have HBX := Lib.hid hbx
  have K1 := Lib.hid (((Chg.refl [] w).alloc (.cells #[.int .u8 kd, .int .i64 pos, .int .i64 n, .string ⟨s.toArray⟩] 48)).sub k1)
  have KEEP : Hid (∀ W, Chg [] w1 W → W.cell? ⟨w.heap.size, 0, none⟩ = some (.int .u8 kd) ∧ W.cell? ⟨w.heap.size, 1, none⟩ = some (.int .i64 pos) ∧ W.cell? ⟨g, 2, none⟩ = some (.slice A os.length c) ∧ W.frozen? ⟨g, 2, none⟩ = false) := Lib.hid (fun W k => by
    have h1 := k.at HBX.out (by simp)
    have h2 := (K1.out.same k).at HBK.out (by simp)
    exact ⟨blk_cell h1 0, blk_cell h1 1, blk_cell h2 2, blk_frozen h2 2⟩)
  clear hbx k1
  obtain ⟨x0, x1, y2, yf⟩ := KEEP.out _ (Chg.refl [] _)
  go_upto_region 6 with fail
  have z1 := fun o => (KEEP.out _ ((Chg.refl [] w1).alloc o)).2.2.1
  have z2 := fun o o' => (KEEP.out _ (((Chg.refl [] w1).alloc o).alloc o')).2.2.1
  have z1d := fun o => (KEEP.out _ ((Chg.refl [] w1).drew.alloc o)).2.2.1
  have z2d := fun o o' => (KEEP.out _ (((Chg.refl [] w1).drew.alloc o).alloc o')).2.2.1
  go_cut [] (fun wx => Hid (∃ b, IsRd wx base g rs tops v1 ((⟨pos, q, []⟩, b, .slice none 0 0) :: os)) ∧ Hid (Below base w1 wx) ∧ Hid (wx.cell? ⟨w.heap.size, 1, none⟩ = some (.int .i64 pos)))
  case first =>
    go_region_law (refine app_step (W := (w1.drew.alloc (.cells #[.int .i64 pos, .bool q, .slice none 0 0] 53)).alloc (.cells #[.pointer (some ⟨w1.heap.size, 0, none⟩)] 50)) (by rfl) (.tmp 24) (.tmp 30) 44 (by rfl) base 50 _ 1 8 Tryd.underlying44 infoPtr rfl (by decide) (by decide) (.slice A os.length c) os.length (os.reverse.map fun o => .pointer (some ⟨o.2.1, 0, none⟩)) (by rfl) (own_keep HOP.out (((K1.out.drew).alloc _).alloc _) (by simp)) _ 1 [.pointer (some ⟨w1.heap.size, 0, none⟩)] (by rfl) (src_new _ _ _ _ _ _ (by rfl) (by simp)) (by simp [Value.oneCell']) (Nat.le_trans hbase (((K1.out.drew).alloc _).alloc _).size) (by omega) ?_; intro B4 c4 w4 ho4 hc4 hb4; have q0 : w4.cell? ⟨g, 2, none⟩ = some (.slice A os.length c) := hc4.cell (z2d _ _) HG.out; have q1 : w4.frozen? ⟨g, 2, none⟩ = false := hc4.frozen (z2d _ _) (KEEP.out _ (((Chg.refl [] w1).drew.alloc _).alloc _)).2.2.2 HG.out)
    all_goals
      go_wp2
      go_meet
      have K4 := Lib.hid hc4
      have HO4 := Lib.hid ho4
      clear hc4 ho4 hb4 q0 q1 z1 z2 z1d z2d
      have kW1 : Chg [] w1 ((w1.drew.alloc (.cells #[.int .i64 pos, .bool q, .slice none 0 0] 53)).alloc (.cells #[.pointer (some ⟨w1.heap.size, 0, none⟩)] 50)) := ((Chg.refl [] w1).drew.alloc _).alloc _
      have kW := K1.out.same kW1
      have hbW := kW.at HBK.out (by simp)
      have hoW : ((w1.drew.alloc (.cells #[.int .i64 pos, .bool q, .slice none 0 0] 53)).alloc (.cells #[.pointer (some ⟨w1.heap.size, 0, none⟩)] 50)).heap[w1.heap.size]? = some (.cells #[.int .i64 pos, .bool q, .slice none 0 0] 53 (0, 0)) := blk_old (by show _ < (w1.heap.push _).size; simp) (blk_new rfl)
      have hbase1 : base ≤ w1.heap.size := Nat.le_trans hbase K1.out.size
      have kk : Chg (g :: ob (.slice A os.length c)) w1 (w4.setCell ⟨g, 2, none⟩ (.slice B4 (os.length + 1) c4)) := ((kW1.mono (fun _ h => by cases h)).trans K4.out (fun b hb => .inl (List.mem_cons_of_mem _ hb))).set _ _ (.inl (List.mem_cons_self ..))
      refine ⟨Lib.hid ⟨w1.heap.size, (H.out.chg kW).push hbW K4.out ⟨pos, q, []⟩ w1.heap.size rfl ⟨hbase1, fun o' ho' e => ?_⟩ ?_ HO4.out⟩, Lib.hid (below_chg kk (fun b hb => ?_) hbase1), Lib.hid ?_⟩
      · have h1 := HLT.out o' ho'
        have h2 := K1.out.size
        omega
      · exact K4.out.at hoW (fun hm => own_blk_ne (own_keep HOP.out kW (by simp)) hoW (by decide) (mem_ob.1 hm))
      · rcases List.mem_cons.1 hb with rfl | hb
        · exact H.out.hg
        · exact (HOP.out.lt b (mem_ob.1 hb)).1
      · have h1 := kW1.at HBX.out (by simp)
        have h2 := K4.out.at h1 (fun hm => own_blk_ne (own_keep HOP.out kW (by simp)) h1 (by decide) (mem_ob.1 hm))
        have hgl := H.out.base_le.2
        have h3 := blk_far h2 (p := ⟨g, 2, none⟩) (by show w.heap.size ≠ g; omega) (.slice B4 (os.length + 1) c4)
        exact blk_cell h3 1
  case rest =>
    obtain ⟨HI, HB, HX⟩ := hcut
    obtain ⟨b, hI⟩ := HI.out
    have HI2 := Lib.hid hI
    have hx1 := HX.out
    have hB1 := Lib.hid ((below_chg0 K1.out hbase).trans HB.out)
    clear hI HI HX HB KEEP x0 x1 y2 yf z1 z2 z1d z2d H HBK HOP HG
    cases q with
    | true =>
      have PC := Lib.hid (put_all base g rs tops v1 ((⟨pos, true, []⟩, b, .slice none 0 0) :: os) ⟨3, pos, 0, quoteL, []⟩ (.slice none 0 0) _ HI2.out (ints_nil _ _) (apart_nil _) (by simp only [List.length_cons]; omega) hb2 (fun o ho => by
        rcases List.mem_cons.1 ho with rfl | ho
        · exact Nat.zero_le _
        · exact hb3'.out o ho) (by simp only [List.length_cons]; omega))
      go_wp2_with fail
      refine PC.out.mono ?_
      rintro e w2 ⟨rfl, hst, hb, _⟩
      have R1 := Lib.hid hst
      have R2 := Lib.hid hb
      clear hst hb
      go_wp2_with fail
      go_ret
      exact ⟨rfl, R1.out, hB1.out.trans R2.out⟩
    | false =>
      go_wp2_with fail
      go_ret
      exact ⟨rfl, ⟨_, _, _, HI2.out, rfl, rfl⟩, hB1.out⟩
end Go.Proofs.YthfbkhjcnfjmmaaDoor.ReadM

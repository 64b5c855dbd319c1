import Derived.Test.YthfbkhjcnfjmmaaDoorRefR2
import Derived.Deep.RegionHeld3
namespace Go.Proofs.YthfbkhjcnfjmmaaDoor.RefR
open Go Go.RowKit Go.Proofs.YthfbkhjcnfjmmaaDoor.Heap Go.Proofs.YthfbkhjcnfjmmaaDoor.ReadP Go.Proofs.YthfbkhjcnfjmmaaDoor.ReadM
open Go.Proofs.YthfbkhjcnfjmmaaDoor.Own (ob mem_ob own_slice own_keep Src add_flat app app_lit app_step app_step_lit own_lit0 src_new one_nums)
open Go.Proofs.YthfbkhjcnfjmmaaDoorW.PrintWords (Aside0 below_then below_alloc own_typed)
theorem own_raise {w : World} {base e size n b c : Nat} {xs : List Value} (h : w.ownsRow 0 e size (.slice (some ⟨b, 0, none⟩) n c) n xs) (hb : base ≤ b) : w.ownsRow base e size (.slice (some ⟨b, 0, none⟩) n c) n xs := by
  refine ⟨h.1, ?_⟩
  rcases h.2 with ⟨h1, _⟩ | ⟨g, cap, cur, h1, _, h3⟩
  · cases h1
  · cases h1
    exact .inr ⟨b, c, cur, rfl, hb, h3⟩
theorem part_one {w : World} {base : Nat} {os : List (Pt × Value)} (h : ∀ o ∈ os, Ints w base o.2 o.1.l) : ∀ u ∈ os.reverse.flatMap partC, u.oneCell' = true := by
  intro u hu
  obtain ⟨o, ho, hu⟩ := List.mem_flatMap.1 hu
  obtain ⟨B, c, hB⟩ := own_slice (h o (List.mem_reverse.1 ho))
  simp [partC] at hu
  rcases hu with rfl | rfl | rfl
  · rfl
  · rfl
  · rw [hB]; rfl
set_option maxHeartbeats 4000000 in
set_option maxRecDepth 100000 in
theorem close_step (base g : Nat) (rs : List (Nd × Value)) (tops : List Int) (v1 : Value) (o : Pt) (v : Value) (os : List (Pt × Value)) (w : World) (h : IsRf w base g rs tops v1 ((o, v) :: os)) (hos : os.length ≤ 1000)
    (hP : ∀ (W : World) (Lx : Value), IsRf W base g rs tops v1 os → Ints W base Lx o.l → (∀ v ∈ v1 :: (os.map (·.2) ++ rs.map (·.2)), ∀ k, v.ownBlock = some k → Lx.ownBlock ≠ some k) →
      Calls Tryd.prog 32 #[.pointer (some ⟨g, 0, none⟩), .agg (nodeC (⟨4, o.at_, 0, [], o.l⟩, Lx)).toArray] W (PutPost W base g (putS (rs.map (·.1)) tops (os.map (·.1)) ⟨4, o.at_, 0, [], o.l⟩))) :
    Calls Tryd.prog 33 #[.pointer (some ⟨g, 0, none⟩)] w (PutPost w base g (putS (rs.map (·.1)) tops (os.map (·.1)) ⟨4, o.at_, 0, [], o.l⟩)) := by
  obtain ⟨Av, cv, hv⟩ := own_slice (h.ops (o, v) (List.mem_cons_self ..))
  simp only at hv
  subst hv
  generalize hst : putS (rs.map (·.1)) tops (os.map (·.1)) ⟨4, o.at_, 0, [], o.l⟩ = st at *
  have H := Lib.hid h
  have HP := Lib.hid hP
  have hbase : base ≤ w.heap.size := h.base_le.1
  obtain ⟨v0, gb, c, hbk, hnd, hop, hcap, ⟨cs, hgb⟩, l0, l1, l2⟩ := h.last
  have HBK := Lib.hid hbk
  have t2 := blk_cell hbk 2
  simp at t2
  have hone := part_one (fun o' ho' => h.ops o' (List.mem_cons_of_mem _ ho'))
  have hsrc : ∀ W, Chg [] w W → Src W 3 (.slice (some ⟨gb, 0, none⟩) os.length c) os.length (os.reverse.flatMap partC) := fun W k => by
    have h4 := own_less hop (m := os.length) (by omega) (by omega)
    have hl : ∀ (zs : List (Pt × Value)), (zs.flatMap partC).length = zs.length * 3 := by
      intro zs; induction zs with
      | nil => rfl
      | cons a zs ih => rw [List.flatMap_cons, List.length_append, ih]; simp [partC]; omega
    rw [List.reverse_cons, List.flatMap_append, show os.length * 3 = (os.reverse.flatMap partC).length from by rw [hl, List.length_reverse], List.take_left] at h4
    exact Src.own (own_keep h4 k (by simp))
  have KEEP : Hid (∀ W, Chg [] w W → W.cell? ⟨g, 2, none⟩ = some (.slice (some ⟨gb, 0, none⟩) (os.length + 1) c) ∧ W.frozen? ⟨g, 2, none⟩ = false) := Lib.hid (fun W k => ⟨k.cell t2 (by simp), blk_frozen (k.at hbk (by simp)) _⟩)
  have HS := Lib.hid hsrc
  have HONE := Lib.hid hone
  clear hone hsrc
  generalize hm : os.length = m at *
  have HM := Lib.hid hm
  have b0 : (0 : Int) ≤ (m : Int) := by omega
  have b1 : (m : Int) < 1001 := by omega
  have b2 : (m : Int) ≤ (c : Int) := by omega
  have b3 : (m : Int) ≤ (m : Int) + 1 := by omega
  have b4 : (m : Int) < (m : Int) + 1 := by omega
  have e1 : (m : Int) + 1 - 1 = (m : Int) := by omega
  have w1 : IntKind.i64.wrap ((m : Int) + 1 - 1) = (m : Int) := by rw [IntWalk.i64_in _ (by omega)]; omega
  have w3 : IntKind.i64.wrap (m : Int) = (m : Int) := IntWalk.i64_in _ (by omega)
  have w2 : IntKind.i64.wrap (((m + 1 : Nat) : Int) - 1) = (m : Int) := by rw [IntWalk.i64_in _ (by omega)]; omega
  have b5 : (m : Int) < ((m + 1 : Nat) : Int) := by omega
  have b6 : (m : Int) ≤ ((m + 1 : Nat) : Int) := by omega
  have hlt := blk_lt hbk
  clear hst h hP hbk hnd hop hcap hgb hm hos
  go_enter Tryd.func33, Tryd.ntmps33
  go_upto_region 0 with fail
  go_region_held3 (fun w' => w'.cell? ⟨g, 2, none⟩ = some (.slice (some ⟨gb, 0, none⟩) (m + 1) c) ∧ w'.cell? ⟨gb, m * 3, none⟩ = some (.int .i64 o.at_) ∧ w'.cell? ⟨gb, m * 3 + 1, none⟩ = some (.bool o.quote) ∧ w'.cell? ⟨gb, m * 3 + 2, none⟩ = some (.slice Av o.l.length cv))
    (go_keep) (fail)
  have K1 : Chg [] w (w.alloc (.cells #[.int .i64 o.at_, .bool o.quote, .slice Av o.l.length cv] 59)).drew := ((Chg.refl [] w).alloc _).drew
  have hX : (w.alloc (.cells #[.int .i64 o.at_, .bool o.quote, .slice Av o.l.length cv] 59)).drew.heap[w.heap.size]? = some (.cells #[.int .i64 o.at_, .bool o.quote, .slice Av o.l.length cv] 59 (0, 0)) := ((Chg.refl [] _).drew).at (blk_new rfl) (by simp)
  generalize (w.alloc (.cells #[.int .i64 o.at_, .bool o.quote, .slice Av o.l.length cv] 59)).drew = W1 at *
  have HK1 := Lib.hid K1
  have HX := Lib.hid hX
  have FIN : Hid (∀ (b c3 : Nat) w5, w5.ownsRow 0 59 3 (.slice (some ⟨b, 0, none⟩) m c3) m (os.reverse.flatMap partC) → W1.drew.heap.size ≤ b → Chg [] W1.drew w5 →
      Hid (IsRf (w5.setCell ⟨g, 2, none⟩ (.slice (some ⟨b, 0, none⟩) m c3)) base g rs tops v1 os ∧ Ints (w5.setCell ⟨g, 2, none⟩ (.slice (some ⟨b, 0, none⟩) m c3)) base (.slice Av o.l.length cv) o.l ∧ (∀ x ∈ v1 :: (os.map (·.2) ++ rs.map (·.2)), ∀ k, x.ownBlock = some k → (Value.slice Av o.l.length cv).ownBlock ≠ some k)) ∧
      Hid ((w5.setCell ⟨g, 2, none⟩ (.slice (some ⟨b, 0, none⟩) m c3)).heap[w.heap.size]? = some (.cells #[.int .i64 o.at_, .bool o.quote, .slice Av o.l.length cv] 59 (0, 0))) ∧
      Hid (Below base w (w5.setCell ⟨g, 2, none⟩ (.slice (some ⟨b, 0, none⟩) m c3)) ∧ w.heap.size ≤ (w5.setCell ⟨g, 2, none⟩ (.slice (some ⟨b, 0, none⟩) m c3)).heap.size)) := Lib.hid (fun b c3 w5 ho5 hb5 hc5 => by
    have k5 : Chg [] w w5 := (HK1.out.drew).sub hc5
    have ho6 := own_raise (base := base) ho5 (Nat.le_trans (Nat.le_trans hbase HK1.out.size) hb5)
    have hm := HM.out
    subst hm
    have kk : Chg [g] w (w5.setCell ⟨g, 2, none⟩ (.slice (some ⟨b, 0, none⟩) os.length c3)) := (k5.mono (fun _ h => by cases h)).set _ _ (.inl (by simp))
    refine ⟨Lib.hid (H.out.pop HBK.out k5 ho6), Lib.hid ?_, Lib.hid ⟨below_chg kk (fun b' hb' => ?_) hbase, kk.size⟩⟩
    · exact blk_far (hc5.at (((Chg.refl [] W1).drew).at HX.out (by simp)) (by simp)) (by show w.heap.size ≠ g; omega) _
    · have : b' = g := by simpa using hb'
      subst this
      exact H.out.hg)
  have y0 := (KEEP.out _ HK1.out).1
  have y1 := fun o => (KEEP.out _ (HK1.out.alloc o)).1
  have y2 := fun o => (KEEP.out _ (HK1.out.drew.alloc o)).1
  have y3 := (KEEP.out _ HK1.out.drew).1
  clear t2 l0 l1 l2 K1 hX
  go_wp2_with fail
  go_cut [] (fun wx => Hid (IsRf wx base g rs tops v1 os ∧ Ints wx base (.slice Av o.l.length cv) o.l ∧ (∀ x ∈ v1 :: (os.map (·.2) ++ rs.map (·.2)), ∀ k, x.ownBlock = some k → (Value.slice Av o.l.length cv).ownBlock ≠ some k)) ∧ Hid (wx.heap[w.heap.size]? = some (.cells #[.int .i64 o.at_, .bool o.quote, .slice Av o.l.length cv] 59 (0, 0))) ∧ Hid (Below base w wx ∧ w.heap.size ≤ wx.heap.size))
  case first =>
    go_region_law (refine app_step_lit (W := W1.drew) (by rfl) (.tmp 16) (.tmp 27) 55 (by rfl) 59 _ 3 40 Tryd.underlying55 infoPart rfl (by decide) (by decide) (by rfl) _ m (os.reverse.flatMap partC) (by rfl) (HS.out _ HK1.out.drew) HONE.out (by omega) ?_; intro b3 c3 w5 ho5 hb5 hc5; have q0 := hc5.cell (KEEP.out _ HK1.out.drew).1 (by simp); have q1 := hc5.frozen (KEEP.out _ HK1.out.drew).1 (KEEP.out _ HK1.out.drew).2 (by simp))
    all_goals
      go_wp2
      go_meet
      exact FIN.out _ _ _ ho5 hb5 hc5
  case rest =>
    obtain ⟨H4, HX4, HB4⟩ := hcut
    have x0 := blk_cell HX4.out 0
    have x2 := blk_cell HX4.out 2
    simp at x0 x2
    clear FIN y0 y1 y2 y3 KEEP HX
    go_wp2_with fail
    refine (HP.out wc (.slice Av o.l.length cv) H4.out.1 H4.out.2.1 H4.out.2.2).mono ?_
    rintro e w9 ⟨rfl, hst, hb9, hs9⟩
    have R1 := Lib.hid hst
    have R2 := Lib.hid hb9
    have R3 := Lib.hid hs9
    clear hst hb9 hs9
    go_wp2
    go_end0
    exact ⟨rfl, R1.out, HB4.out.1.trans R2.out, Nat.le_trans HB4.out.2 R3.out⟩
theorem close_calls (base g : Nat) (tops : List Int) (hb2 : tops.length ≤ 20000) : ∀ (n : Nat) (rs : List (Nd × Value)) (v1 : Value) (o : Pt) (v : Value) (os : List (Pt × Value)) (w : World), os.length ≤ n → IsRf w base g rs tops v1 ((o, v) :: os) → rs.length + os.length ≤ 20000 → o.l.length ≤ 20001 → (∀ o ∈ os, o.1.l.length ≤ 20000) → os.length ≤ 1000 →
    Calls Tryd.prog 33 #[.pointer (some ⟨g, 0, none⟩)] w (PutPost w base g (putS (rs.map (·.1)) tops (os.map (·.1)) ⟨4, o.at_, 0, [], o.l⟩))
  | 0, rs, v1, o, v, os, w, hn, h, h1, _, h3, h4 => close_step base g rs tops v1 o v os w h h4 (fun W Lx hI hx ha => put_calls base g rs tops v1 os ⟨4, o.at_, 0, [], o.l⟩ Lx W hI hx ha h1 hb2 h3 h4 (fun _ _ _ _ _ _ hlt => by omega))
  | n + 1, rs, v1, o, v, os, w, hn, h, h1, _, h3, h4 => close_step base g rs tops v1 o v os w h h4 (fun W Lx hI hx ha => put_calls base g rs tops v1 os ⟨4, o.at_, 0, [], o.l⟩ Lx W hI hx ha h1 hb2 h3 h4 (fun o' v' os' W' v1' rs' hlt hI' k1 k2 k3 k4 => close_calls base g tops hb2 n rs' v1' o' v' os' W' (by omega) hI' k1 k2 k3 k4))
/-- put, at any reader -/
theorem put_all (base g : Nat) (rs : List (Nd × Value)) (tops : List Int) (v1 : Value) (os : List (Pt × Value)) (x : Nd) (Lx : Value) (w : World) (h : IsRf w base g rs tops v1 os) (hx : Ints w base Lx x.l) (hax : ∀ v ∈ v1 :: (os.map (·.2) ++ rs.map (·.2)), ∀ k, v.ownBlock = some k → Lx.ownBlock ≠ some k)
    (hb1 : rs.length + os.length ≤ 20000) (hb2 : tops.length ≤ 20000) (hb3 : ∀ o ∈ os, o.1.l.length ≤ 20000) (hos : os.length ≤ 1000) :
    Calls Tryd.prog 32 #[.pointer (some ⟨g, 0, none⟩), .agg (nodeC (x, Lx)).toArray] w (PutPost w base g (putS (rs.map (·.1)) tops (os.map (·.1)) x)) :=
  put_calls base g rs tops v1 os x Lx w h hx hax hb1 hb2 hb3 hos (fun o v os' W v1' rs' _ hI k1 k2 k3 k4 => close_calls base g tops hb2 os'.length rs' v1' o v os' W (Nat.le_refl _) hI k1 k2 k3 k4)
end Go.Proofs.YthfbkhjcnfjmmaaDoor.RefR

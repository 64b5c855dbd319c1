/- The contract of token where it is a datum, closes, or is too deep; each states its conditions. -/
import Derived.Test.YthfbkhjcnfjmmaaDoorReadC3
namespace Go.Proofs.YthfbkhjcnfjmmaaDoor.ReadM
open Go Go.RowKit Go.Proofs.YthfbkhjcnfjmmaaDoor.Heap Go.Proofs.YthfbkhjcnfjmmaaDoor.Own Go.Proofs.YthfbkhjcnfjmmaaDoor.ReadP Go.Proofs.YthfbkhjcnfjmmaaDoor.LexP
open Go.Proofs.YthfbkhjcnfjmmaaDoorW.PrintWords (Aside0 below_then below_alloc)
def lastP : List (Pt × Nat × Value) → Value
  | [] => .pointer none
  | o :: _ => .pointer (some ⟨o.2.1, 0, none⟩)
theorem last_any {w : World} {base g : Nat} {rs : List (Nd × Value)} {tops : List Int} {v1 : Value} {os : List (Pt × Nat × Value)} (h : IsRd w base g rs tops v1 os) (hn : os.length ≤ 1000) :
    Calls Tryd.prog 20 #[.pointer (some ⟨g, 0, none⟩)] w fun e w' => e = .returned (lastP os) ∧ Chg [] w w' := by
  cases os with
  | nil => exact (last_rd0 h).mono fun e w' h => ⟨h.1, h.2 ▸ Chg.refl _ _⟩
  | cons o os => exact (last_rd1 h (by simp at hn; omega)).mono fun e w' ⟨h1, n, h2⟩ => ⟨h1, by rw [h2]; exact (Chg.refl [] w).draw n⟩
def tokV (t : Tok) : Value := .agg #[.int .u8 t.kind, .int .i64 t.pos, .int .i64 t.n, .string ⟨t.s.toArray⟩]
/-- what a call of token leaves -/
def TokPost (w : World) (base g : Nat) (x : Except Int (List Nd × List Int × List Pt)) (e : Ending) (w' : World) : Prop := match x with
  | .error er => e = .returned (.int .i64 er) ∧ Chg [] w w'
  | .ok st => e = .returned (.int .i64 0) ∧ (∃ rs v1 os, IsRd w' base g rs st.2.1 v1 os ∧ rs.map (·.1) = st.1 ∧ os.map (·.1) = st.2.2) ∧ Below base w w'
theorem below_chg0 {w w' : World} {base : Nat} (k : Chg [] w w') (hb : base ≤ w.heap.size) : Below base w w' := below_chg k (fun _ h => by cases h) hb
theorem apart_nil (l : List Value) : ∀ v ∈ l, ∀ k, v.ownBlock = some k → (Value.slice none 0 0).ownBlock ≠ some k := fun _ _ _ _ h => by simp [Value.ownBlock] at h
theorem IsRd.base_le {w : World} {base g : Nat} {rs : List (Nd × Value)} {tops : List Int} {v1 : Value} {os : List (Pt × Nat × Value)} (h : IsRd w base g rs tops v1 os) : base ≤ w.heap.size ∧ g < w.heap.size := by
  have := h.hg; obtain ⟨_, _, _, hh, _, _⟩ := h.cells; have := blk_lt hh; omega
set_option maxHeartbeats 4000000 in
set_option maxRecDepth 100000 in
/-- a token that is a datum -/
theorem token_datum (base g : Nat) (rs : List (Nd × Value)) (tops : List Int) (v1 : Value) (os : List (Pt × Nat × Value)) (t : Tok) (w : World) (h : IsRd w base g rs tops v1 os) (hk : t.kind = 4 ∨ t.kind = 5 ∨ t.kind = 6)
    (hb1 : rs.length + os.length ≤ 20000) (hb2 : tops.length ≤ 20000) (hb3 : ∀ o ∈ os, o.1.l.length ≤ 20000) (hos : os.length ≤ 1000) :
    Calls Tryd.prog 19 #[.pointer (some ⟨g, 0, none⟩), tokV t] w (TokPost w base g (tokS (rs.map (·.1), tops, os.map (·.1)) t)) := by
  have PC := fun (x : Nd) (W : World) (hl : x.l = []) (k : Chg [] w W) => put_all base g rs tops v1 os x (.slice none 0 0) W (h.chg k) (by rw [hl]; exact ints_nil _ _) (apart_nil _) hb1 hb2 hb3 hos
  have LC := fun (W : World) (k : Chg [] w W) => last_any (h.chg k) hos
  have hbase := h.base_le.1
  have hP := Lib.hid PC
  have hL := Lib.hid LC
  clear PC LC h hb1 hb2 hb3 hos
  obtain ⟨kd, pos, n, s⟩ := t
  simp only at hk
  unfold tokV tokS
  rcases hk with hk | hk | hk
  · subst hk
    rw [if_pos rfl]
    go_enter Tryd.func19, Tryd.ntmps19
    go_wp2_with fail
    refine (hL.out _ ((Chg.refl [] w).alloc _)).mono ?_
    rintro e w1 ⟨rfl, k1⟩
    have hbx := k1.at (blk_new rfl) (by simp)
    have x1 := blk_cell hbx 1
    have x2 := blk_cell hbx 2
    have x0 := blk_cell hbx 0
    simp at x0 x1 x2
    have K1 := Lib.hid (((Chg.refl [] w).alloc (.cells #[.int .u8 4, .int .i64 pos, .int .i64 n, .string ⟨s.toArray⟩] 48)).sub k1)
    clear hbx k1
    go_wp2_with fail
    refine (hP.out ⟨1, pos, n, [], []⟩ w1 rfl K1.out).mono ?_
    rintro e w2 ⟨rfl, hst, hb, _⟩
    have R1 := Lib.hid hst
    have R2 := Lib.hid hb
    clear hst hb
    go_wp2_with fail
    go_ret
    exact ⟨rfl, R1.out, (below_chg0 K1.out hbase).trans R2.out⟩
  · subst hk
    rw [if_neg (by simp), if_pos rfl]
    go_enter Tryd.func19, Tryd.ntmps19
    go_wp2_with fail
    refine (hL.out _ ((Chg.refl [] w).alloc _)).mono ?_
    rintro e w1 ⟨rfl, k1⟩
    have hbx := k1.at (blk_new rfl) (by simp)
    have x1 := blk_cell hbx 1
    have x2 := blk_cell hbx 2
    have x0 := blk_cell hbx 0
    simp at x0 x1 x2
    have K1 := Lib.hid (((Chg.refl [] w).alloc (.cells #[.int .u8 5, .int .i64 pos, .int .i64 n, .string ⟨s.toArray⟩] 48)).sub k1)
    clear hbx k1
    go_wp2_with fail
    refine (hP.out ⟨2, pos, n, [], []⟩ w1 rfl K1.out).mono ?_
    rintro e w2 ⟨rfl, hst, hb, _⟩
    have R1 := Lib.hid hst
    have R2 := Lib.hid hb
    clear hst hb
    go_wp2_with fail
    go_ret
    exact ⟨rfl, R1.out, (below_chg0 K1.out hbase).trans R2.out⟩
  · subst hk
    rw [if_neg (by simp), if_neg (by simp), if_pos rfl]
    go_enter Tryd.func19, Tryd.ntmps19
    go_wp2_with fail
    refine (hL.out _ ((Chg.refl [] w).alloc _)).mono ?_
    rintro e w1 ⟨rfl, k1⟩
    have hbx := k1.at (blk_new rfl) (by simp)
    have x1 := blk_cell hbx 1
    have x2 := blk_cell hbx 3
    have x0 := blk_cell hbx 0
    simp at x0 x1 x2
    have K1 := Lib.hid (((Chg.refl [] w).alloc (.cells #[.int .u8 6, .int .i64 pos, .int .i64 n, .string ⟨s.toArray⟩] 48)).sub k1)
    clear hbx k1
    go_wp2_with fail
    refine (hP.out ⟨3, pos, 0, s, []⟩ w1 rfl K1.out).mono ?_
    rintro e w2 ⟨rfl, hst, hb, _⟩
    have R1 := Lib.hid hst
    have R2 := Lib.hid hb
    clear hst hb
    go_wp2_with fail
    go_ret
    exact ⟨rfl, R1.out, (below_chg0 K1.out hbase).trans R2.out⟩
set_option maxHeartbeats 4000000 in
set_option maxRecDepth 100000 in
/-- a token that closes -/
theorem token_close (base g : Nat) (rs : List (Nd × Value)) (tops : List Int) (v1 : Value) (os : List (Pt × Nat × Value)) (t : Tok) (w : World) (h : IsRd w base g rs tops v1 os) (hk : t.kind = 2)
    (hb1 : rs.length + os.length ≤ 20000) (hb2 : tops.length ≤ 20000) (hb3 : ∀ o ∈ os, o.1.l.length ≤ 20000) (hos : os.length ≤ 1000) :
    Calls Tryd.prog 19 #[.pointer (some ⟨g, 0, none⟩), tokV t] w (TokPost w base g (tokS (rs.map (·.1), tops, os.map (·.1)) t)) := by
  have hbase := h.base_le.1
  obtain ⟨kd, pos, n, s⟩ := t
  simp only at hk
  subst hk
  unfold tokV tokS
  rw [if_neg (by simp), if_neg (by simp), if_neg (by simp), if_pos rfl]
  cases os with
  | nil =>
    have hL := Lib.hid (fun (W : World) (k : Chg [] w W) => last_rd0 (h.chg k))
    clear h hb1 hb2 hb3 hos
    go_enter Tryd.func19, Tryd.ntmps19
    go_wp2_with fail
    refine (hL.out _ ((Chg.refl [] w).alloc _)).mono ?_
    rintro e w1 ⟨rfl, rfl⟩
    go_wp2
    go_ret
    exact ⟨rfl, (Chg.refl [] w).alloc _⟩
  | cons o os =>
    obtain ⟨o, b, v⟩ := o
    simp only [List.length_cons] at hb1 hos
    have hL := Lib.hid (fun (W : World) (k : Chg [] w W) => last_rd1 (h.chg k) (by omega))
    have hC := Lib.hid (fun (W : World) (k : Chg [] w W) => close_calls base g tops hb2 os.length rs v1 o b v os W (Nat.le_refl _) (h.chg k) (by omega) (by have := hb3 _ (List.mem_cons_self ..); simp only at this; omega) (fun o' ho' => hb3 o' (List.mem_cons_of_mem _ ho')) (by omega))
    have hob := (h.ops _ (List.mem_cons_self ..)).2.1
    simp only at hob
    have HOB := Lib.hid hob
    clear h hb1 hb2 hb3 hos hob
    simp only [List.map_cons]
    by_cases hq : o.quote = true
    · rw [if_pos hq]
      have HQ := Lib.hid hq
      clear hq
      go_enter Tryd.func19, Tryd.ntmps19
      go_wp2_with fail
      refine (hL.out _ ((Chg.refl [] w).alloc _)).mono ?_
      rintro e w1 ⟨rfl, m, hw1⟩
      have k1 : Chg [] (w.alloc (.cells #[.int .u8 2, .int .i64 pos, .int .i64 n, .string ⟨s.toArray⟩] 48)) w1 := by rw [hw1]; exact (Chg.refl [] _).draw m
      have x0 := blk_cell (k1.at (blk_new rfl) (by simp)) 0
      have K1 := Lib.hid (((Chg.refl [] w).alloc (.cells #[.int .u8 2, .int .i64 pos, .int .i64 n, .string ⟨s.toArray⟩] 48)).sub k1)
      have y1 := blk_cell (K1.out.at HOB.out (by simp)) 1
      simp at x0 y1
      rw [HQ.out] at y1
      clear k1 hw1
      go_wp2
      go_ret
      exact ⟨rfl, K1.out⟩
    · rw [if_neg hq]
      have hq2 : o.quote = false := by simpa using hq
      have HQ := Lib.hid hq2
      clear hq hq2
      go_enter Tryd.func19, Tryd.ntmps19
      go_wp2_with fail
      refine (hL.out _ ((Chg.refl [] w).alloc _)).mono ?_
      rintro e w1 ⟨rfl, m, hw1⟩
      have k1 : Chg [] (w.alloc (.cells #[.int .u8 2, .int .i64 pos, .int .i64 n, .string ⟨s.toArray⟩] 48)) w1 := by rw [hw1]; exact (Chg.refl [] _).draw m
      have x0 := blk_cell (k1.at (blk_new rfl) (by simp)) 0
      have K1 := Lib.hid (((Chg.refl [] w).alloc (.cells #[.int .u8 2, .int .i64 pos, .int .i64 n, .string ⟨s.toArray⟩] 48)).sub k1)
      have y1 := blk_cell (K1.out.at HOB.out (by simp)) 1
      simp at x0 y1
      rw [HQ.out] at y1
      clear k1 hw1
      go_wp2_with fail
      refine (hC.out w1 K1.out).mono ?_
      rintro e w2 ⟨rfl, hst, hb, _⟩
      have R1 := Lib.hid hst
      have R2 := Lib.hid hb
      clear hst hb
      go_wp2_with fail
      go_ret
      exact ⟨rfl, R1.out, (below_chg0 K1.out hbase).trans R2.out⟩
set_option maxHeartbeats 4000000 in
set_option maxRecDepth 100000 in
/-- a token that opens, where too much is open -/
theorem token_deep (base g : Nat) (rs : List (Nd × Value)) (tops : List Int) (v1 : Value) (os : List (Pt × Nat × Value)) (t : Tok) (w : World) (h : IsRd w base g rs tops v1 os) (hk : t.kind = 1 ∨ t.kind = 3) (hd : 50 ≤ os.length) (hos : os.length ≤ 1000) :
    Calls Tryd.prog 19 #[.pointer (some ⟨g, 0, none⟩), tokV t] w (TokPost w base g (tokS (rs.map (·.1), tops, os.map (·.1)) t)) := by
  have hbase := h.base_le.1
  obtain ⟨v0, A, c, hbk, _, _⟩ := h.cells
  have HBK := Lib.hid hbk
  have hL := Lib.hid (fun (W : World) (k : Chg [] w W) => last_any (h.chg k) hos)
  obtain ⟨kd, pos, n, s⟩ := t
  simp only at hk
  have hx : tokS (rs.map (·.1), tops, os.map (·.1)) ⟨kd, pos, n, s⟩ = .error 62 := by
    unfold tokS
    simp only [List.length_map]
    rcases hk with rfl | rfl
    · rw [if_neg (by simp), if_neg (by simp), if_neg (by simp), if_neg (by simp), if_pos hd]
    · rw [if_neg (by simp), if_neg (by simp), if_neg (by simp), if_neg (by simp), if_pos hd]
  rw [hx]
  unfold tokV
  have c1 : decide (50 ≤ (os.length : Int)) = true := decide_eq_true (by omega)
  have c1' : decide (50 ≤ os.length) = true := decide_eq_true hd
  clear h hbk hd hos hx
  rcases hk with rfl | rfl
  all_goals
    go_enter Tryd.func19, Tryd.ntmps19
    go_wp2_with fail
    refine (hL.out _ ((Chg.refl [] w).alloc _)).mono ?_
    rintro e w1 ⟨rfl, k1⟩
    have x0 := blk_cell (k1.at (blk_new rfl) (by simp)) 0
    have K1 := Lib.hid (((Chg.refl [] w).alloc (.cells #[_, .int .i64 pos, .int .i64 n, .string ⟨s.toArray⟩] 48)).sub k1)
    have y2 := blk_cell (K1.out.at HBK.out (by simp)) 2
    simp at x0 y2
    clear k1
    go_wp2
    go_ret
    exact ⟨rfl, K1.out⟩
end Go.Proofs.YthfbkhjcnfjmmaaDoor.ReadM

/- The contract of read.Read; each states its conditions. -/
import Derived.Test.YthfbkhjcnfjmmaaDoorReadC5
import Derived.Test.YthfbkhjcnfjmmaaDoorReadP2
import Derived.Test.YthfbkhjcnfjmmaaDoorLexC5
namespace Go.Proofs.YthfbkhjcnfjmmaaDoor.ReadM
open Go Go.RowKit Go.Proofs.YthfbkhjcnfjmmaaDoor.Heap Go.Proofs.YthfbkhjcnfjmmaaDoor.Own Go.Proofs.YthfbkhjcnfjmmaaDoor.ReadP Go.Proofs.YthfbkhjcnfjmmaaDoor.LexP
open Go.Proofs.YthfbkhjcnfjmmaaDoorW.PrintWords (Aside0 below_then below_alloc)
/-- token, at any reader -/
theorem token_all (base g k : Nat) (rs : List (Nd × Value)) (tops : List Int) (v1 : Value) (os : List (Pt × Nat × Value)) (t : Tok) (w : World) (h : IsRd w base g rs tops v1 os) (hk : 1 ≤ t.kind ∧ t.kind ≤ 6) (hi : Inv k (rs.map (·.1), tops, os.map (·.1))) (hk2 : k ≤ 4001) :
    Calls Tryd.prog 19 #[.pointer (some ⟨g, 0, none⟩), tokV t] w (TokPost w base g (tokS (rs.map (·.1), tops, os.map (·.1)) t)) := by
  obtain ⟨h1, h2, h3, h4⟩ := hi
  simp only [List.length_map] at h1 h2 h3 h4
  have h4' : ∀ o ∈ os, o.1.l.length ≤ 20000 := fun o ho => by
    have := h4 o.1 (List.mem_map_of_mem ho)
    omega
  have hc : t.kind = 1 ∨ t.kind = 2 ∨ t.kind = 3 ∨ t.kind = 4 ∨ t.kind = 5 ∨ t.kind = 6 := by omega
  have opens : t.kind = 1 ∨ t.kind = 3 → Calls Tryd.prog 19 #[.pointer (some ⟨g, 0, none⟩), tokV t] w (TokPost w base g (tokS (rs.map (·.1), tops, os.map (·.1)) t)) := fun hh => by
    by_cases hd : 50 ≤ os.length
    · exact token_deep base g rs tops v1 os t w h hh hd (by omega)
    · obtain ⟨kd, pos, n, s⟩ := t
      simp only at hh
      rcases hh with rfl | rfl
      · exact token_open base g rs tops v1 os false pos n s w h (by omega) (by omega) (by omega) h4'
      · exact token_open base g rs tops v1 os true pos n s w h (by omega) (by omega) (by omega) h4'
  rcases hc with hc | hc | hc | hc | hc | hc
  · exact opens (.inl hc)
  · exact token_close base g rs tops v1 os t w h hc (by omega) (by omega) h4' (by omega)
  · exact opens (.inr hc)
  · exact token_datum base g rs tops v1 os t w h (.inl hc) (by omega) (by omega) h4' (by omega)
  · exact token_datum base g rs tops v1 os t w h (.inr (.inl hc)) (by omega) (by omega) h4' (by omega)
  · exact token_datum base g rs tops v1 os t w h (.inr (.inr hc)) (by omega) (by omega) h4' (by omega)
/-- Read's answer as it is told -/
def ReadPost (base : Nat) (x : Except (Int × Int) (List Nd × List Int)) (e : Ending) (w' : World) : Prop := match x with
  | .error (i, er) => e = .returned (.tuple #[.slice none 0 0, .slice none 0 0, .int .i64 i, .int .i64 er])
  | .ok (row, tops) => ∃ v0 v1 rs, e = .returned (.tuple #[v0, v1, .int .i64 0, .int .i64 0]) ∧ rs.map (·.1) = row ∧ Nodes w' base v0 rs ∧ Ints w' base v1 tops ∧ (∀ p ∈ rs, Ints w' base p.2 p.1.l) ∧ Apart (v1 :: rs.map (·.2))
theorem toks_take (ts : List Tok) (k : Nat) (t : Tok) (st : List Nd × List Int × List Pt) (h : ts[k]? = some t) : toksS st (ts.drop k) = match tokS st t with
    | .error e => .error (t.pos, e)
    | .ok st' => toksS st' (ts.drop (k + 1)) := by
  have hk : k < ts.length := (List.getElem?_eq_some_iff.1 h).1
  rw [List.drop_eq_getElem_cons hk, show ts[k] = t from (List.getElem?_eq_some_iff.1 h).2]
  rfl
/-- the cells of a token of a row -/
theorem tok_cells {w : World} {base : Nat} {B : Option Addr} {c : Nat} {ts : List Tok} {k : Nat} {t : Tok} (h : w.ownsRow base 48 4 (.slice B ts.length c) ts.length (ts.flatMap Go.Proofs.YthfbkhjcnfjmmaaDoor.LexC.tokC)) (hk : ts[k]? = some t) :
    ∃ b, B = some ⟨b, 0, none⟩ ∧ w.cell? ⟨b, k * 4, none⟩ = some (.int .u8 t.kind) ∧ w.cell? ⟨b, k * 4 + 1, none⟩ = some (.int .i64 t.pos) ∧ w.cell? ⟨b, k * 4 + 2, none⟩ = some (.int .i64 t.n) ∧ w.cell? ⟨b, k * 4 + 3, none⟩ = some (.string ⟨t.s.toArray⟩) := by
  have hlt : k < ts.length := (List.getElem?_eq_some_iff.1 hk).1
  rcases h.2 with ⟨h1, h2⟩ | ⟨g, cap, cur, h1, _⟩
  · omega
  · simp only [Value.slice.injEq] at h1
    obtain ⟨rfl, _, _⟩ := h1
    obtain ⟨b, o, h3, _, hc⟩ := (Src.own h).pl (by omega) (by decide)
    injection h3 with h3
    injection h3 with h3 h4
    subst h3; subst h4
    have fl : ∀ (ts : List Tok) (k : Nat) (t : Tok), ts[k]? = some t → ∀ i, i < 4 → (ts.flatMap Go.Proofs.YthfbkhjcnfjmmaaDoor.LexC.tokC)[k * 4 + i]? = (Go.Proofs.YthfbkhjcnfjmmaaDoor.LexC.tokC t)[i]? := by
      intro ts
      induction ts with
      | nil => intro k t h; simp at h
      | cons x ts ih =>
        intro k t h i hi
        rw [List.flatMap_cons]
        have hl : (Go.Proofs.YthfbkhjcnfjmmaaDoor.LexC.tokC x).length = 4 := rfl
        cases k with
        | zero =>
          have : x = t := by simpa using h
          subst this
          rw [Nat.zero_mul, Nat.zero_add, List.getElem?_append_left (by omega)]
        | succ k =>
          rw [List.getElem?_append_right (by omega), hl, show (k + 1) * 4 + i - 4 = k * 4 + i from by omega]
          exact ih k t (by simpa using h) i hi
    have f := fl ts k t hk
    have q0 := hc (k * 4 + 0) (.int .u8 t.kind) (by rw [f 0 (by omega)]; rfl)
    have q1 := hc (k * 4 + 1) (.int .i64 t.pos) (by rw [f 1 (by omega)]; rfl)
    have q2 := hc (k * 4 + 2) (.int .i64 t.n) (by rw [f 2 (by omega)]; rfl)
    have q3 := hc (k * 4 + 3) (.string ⟨t.s.toArray⟩) (by rw [f 3 (by omega)]; rfl)
    rw [Nat.zero_add] at q0 q1 q2 q3
    exact ⟨g, rfl, q0, q1, q2, q3⟩
def intOf6 : Value → Int | .int _ q => q | _ => 0
/-- a reader at the beginning -/
theorem rd_new (w : World) : IsRd (w.alloc (.cells #[.slice none 0 0, .slice none 0 0, .slice none 0 0] 46)) w.heap.size w.heap.size [] [] (.slice none 0 0) [] :=
  ⟨⟨_, _, blk_new rfl, World.ownsRow_nil _ _ _ _, World.ownsRow_nil _ _ _ _⟩, Nat.le_refl _, ints_nil _ _, (fun _ h => by cases h), List.nodup_nil, (fun _ h => by cases h), by simp [Apart]⟩
theorem ret4 {fn : Func} {t u v x : Tmp} (h : fn.results = #[.tmp t, .tmp u, .tmp v, .tmp x]) (tmps : Array Value) (P : Program) (w : World) :
    (results fn tmps).run P w = .ok (.tuple #[tmps.getD t undef, tmps.getD u undef, tmps.getD v undef, tmps.getD x undef]) w := by
  simp [results, h]
/-- a reader, and what is still to be read -/
def RdAt (ts : List Tok) (w : World) (base k : Nat) : Prop := ∃ rs tops v1 os, IsRd w base base rs tops v1 os ∧ Inv k (rs.map (·.1), tops, os.map (·.1)) ∧ toksS ([], [], []) ts = toksS (rs.map (·.1), tops, os.map (·.1)) (ts.drop k)
theorem tokS_err {st : List Nd × List Int × List Pt} {t : Tok} {er : Int} (h : tokS st t = .error er) : er ≠ 0 := by
  unfold tokS at h
  split at h
  · cases h
  split at h
  · cases h
  split at h
  · cases h
  split at h
  · split at h
    · injection h with h; omega
    · split at h
      · injection h with h; omega
      · cases h
  split at h
  · injection h with h; omega
  split at h
  · cases h
  · cases h
set_option maxHeartbeats 8000000 in
set_option maxRecDepth 100000 in
theorem read_calls (s : ByteArray) (w : World) (hV : Go.Proofs.YthfbkhjcnfjmmaaDoor.LexC.Vars w) :
    Calls Tryd.prog 11 #[.string s] w fun e w' => (∃ base, w.heap.size ≤ base ∧ ReadPost base (readF s.data.toList) e w') ∧ Below w.heap.size w w' := by
  have FS := Go.Proofs.YthfbkhjcnfjmmaaDoor.LexC.lex_calls s w hV
  unfold readF
  cases hL : lexF s.data.toList with
  | error x =>
    obtain ⟨i, er⟩ := x
    rw [hL] at FS
    simp only [Go.Proofs.YthfbkhjcnfjmmaaDoor.LexC.LexPost] at FS
    have hne : er ≠ 0 := by
      unfold lexF at hL
      split at hL
      · injection hL with hL; injection hL with _ hL; omega
      · exact lexL_err _ _ _ _ _ (Nat.le_refl _) hL
    have t1 : (er == 0) = false := by simpa using hne
    have t1' : (er != 0) = true := by simpa using hne
    have FS' := Lib.hid FS
    clear FS hL hne
    go_enter Tryd.func11, Tryd.ntmps11
    go_wp2_with fail
    refine FS'.out.mono ?_
    rintro e w2 ⟨rfl, hb⟩
    have HB2 := Aside0.mk hb
    clear hb
    go_wp2_with fail
    refine bodyPost_ret (ret4 rfl _ _ _) rfl ?_
    exact ⟨⟨_, Nat.le_refl _, rfl⟩, HB2.out⟩
  | ok ts =>
    obtain ⟨hkd, htl⟩ := lexF_kinds hL
    rw [hL] at FS
    simp only [Go.Proofs.YthfbkhjcnfjmmaaDoor.LexC.LexPost] at FS
    simp only
    have FS' := Lib.hid FS
    have HKD := Lib.hid hkd
    generalize hans : readT ts = ans
    unfold readT at hans
    have HANS := Lib.hid hans
    clear FS hL hkd hans
    go_enter Tryd.func11, Tryd.ntmps11
    go_wp2_with fail
    refine FS'.out.mono ?_
    rintro e w2 ⟨⟨Bt, ct, rfl, ho⟩, hb⟩
    have HB2 := Aside0.mk hb
    have HO := Lib.hid ho
    clear hb ho
    go_wp2_with fail
    go_loopw [26] (fun i wr => ∃ k : Nat, i = .int .i64 k ∧ k ≤ ts.length ∧ Hid (RdAt ts wr w2.heap.size k) ∧ Aside0 (Below w2.heap.size w2 wr)) (fun i _ => ts.length - (intOf6 i).toNat)
    case atStart => exact ⟨0, rfl, Nat.zero_le _, ⟨[], [], .slice none 0 0, [], rd_new w2, ⟨Nat.le_refl _, Nat.le_refl _, Nat.zero_le _, fun _ h => by cases h⟩, rfl⟩, ⟨(Below.refl _ _).alloc (Nat.le_refl _) _⟩⟩
    case round =>
      obtain ⟨k, rfl, hk, HR, HB⟩ := hrel
      obtain ⟨rs, tops, v1, os, hI, hinv, htk⟩ := HR.out
      have HI := Lib.hid hI
      have HINV := Lib.hid hinv
      have HTK := Lib.hid htk
      clear hI hinv htk HR
      by_cases hkl : k < ts.length
      · have e0 : decide ((k : Int) < (ts.length : Int)) = true := decide_eq_true (by omega)
        have e0' : decide (k < ts.length) = true := decide_eq_true hkl
        obtain ⟨t, ht⟩ : ∃ t, ts[k]? = some t := ⟨_, List.getElem?_eq_getElem hkl⟩
        obtain ⟨b, rfl, x0, x1, x2, x3⟩ := tok_cells (own_keep HO.out (Chg.of_below (F := []) HB.out) (by simp)) ht
        have q0 : (0 : Int) ≤ (k : Int) := by omega
        have q1 : (k : Int) < (ts.length : Int) := by omega
        have hst := toks_take ts k t (rs.map (·.1), tops, os.map (·.1)) ht
        have TC := fun W (kW : Chg [] wr W) => token_all w2.heap.size w2.heap.size k rs tops v1 os t W (HI.out.chg kW) (HKD.out t (List.mem_of_getElem? ht)) HINV.out (by omega)
        have HT := Lib.hid ht
        clear ht
        cases hx : tokS (rs.map (·.1), tops, os.map (·.1)) t with
        | error er =>
          rw [hx] at TC hst
          have hne : er ≠ 0 := tokS_err hx
          have t1 : (er == 0) = false := by simpa using hne
          have t1' : (er != 0) = true := by simpa using hne
          have hans : ans = .error (t.pos, er) := by
            have h0 := HANS.out
            rw [show toksS ([], [], []) ts = _ from HTK, hst] at h0
            exact h0.symm
          have HA := Lib.hid hans
          have TC' := Lib.hid TC
          clear TC hst hx hne hans
          go_wp2_with fail
          refine (TC'.out _ ((Chg.refl [] wr).alloc _)).mono ?_
          rintro e w4 ⟨rfl, hc⟩
          have hbx := blk_cell (hc.at (blk_new rfl) (by simp)) 1
          simp at hbx
          have HB4 := Aside0.mk (below_then HB.out HB.out.size (((Chg.refl [] wr).alloc (.cells #[.int .u8 t.kind, .int .i64 t.pos, .int .i64 t.n, .string ⟨t.s.toArray⟩] 48)).sub hc).below)
          clear hc
          go_wp2_with fail
          go_quiet (fail)
          go_wp2_with fail
          try simp only [Exit.inBlock, Exit.then]
          refine bodyPost_ret (ret4 rfl _ _ _) rfl ?_
          rw [show ans = _ from HA]
          exact ⟨⟨_, HB2.out.size, rfl⟩, below_draw (below_then HB2.out HB2.out.size HB4.out) _⟩
        | ok st =>
          rw [hx] at TC hst
          have hin2 := tok_small HINV.out hx
          have HIN2 := Lib.hid hin2
          have HST := Lib.hid hst
          have TC' := Lib.hid TC
          have t1 : ((0 : Int) != 0) = false := rfl
          clear TC hst hx hin2
          go_wp2_with fail
          refine (TC'.out _ ((Chg.refl [] wr).alloc _)).mono ?_
          rintro e w4 ⟨rfl, ⟨rs', v1', os', hI', e1, e2⟩, hc⟩
          have HI2 := Lib.hid hI'
          have E1 := Lib.hid e1
          have E2 := Lib.hid e2
          have HB4 := Aside0.mk (HB.out.trans ((below_chg0 ((Chg.refl [] wr).alloc (.cells #[.int .u8 t.kind, .int .i64 t.pos, .int .i64 t.n, .string ⟨t.s.toArray⟩] 48)) HB.out.size).trans hc))
          clear hI' e1 e2 hc
          go_wp2_with fail
          go_roundw
          case rel =>
            refine ⟨k + 1, by simp, by omega, ⟨rs', st.2.1, v1', os', HI2.out, ?_, ?_⟩, HB4⟩
            · rw [E1.out, E2.out]; exact HIN2.out
            · rw [E1.out, E2.out, show toksS ([], [], []) ts = _ from HTK, show toksS (rs.map (·.1), tops, os.map (·.1)) (ts.drop k) = _ from HST]
          case measure => simp [intOf6]; omega
      · have e0 : decide ((k : Int) < (ts.length : Int)) = false := decide_eq_false (by omega)
        have e0' : decide (k < ts.length) = false := decide_eq_false hkl
        have hkt : k = ts.length := by omega
        have htk := HTK.out
        rw [hkt, List.drop_length] at htk
        have hans : ans = endS ts.getLast? (rs.map (·.1), tops, os.map (·.1)) := by
          have h0 := HANS.out
          rw [htk] at h0
          exact h0.symm
        have HA := Lib.hid hans
        have LC := Lib.hid (last_any HI.out (by have := HINV.out.2.2.1; simp at this; omega))
        have HTK2 := Lib.hid htk
        clear htk hans hkt
        cases os with
        | nil =>
          obtain ⟨v0, A, c, hbk, hnd, _⟩ := HI.out.cells
          have LC0 := Lib.hid (last_rd0 HI.out)
          have z0 := blk_cell hbk 0
          have z1 := blk_cell hbk 1
          simp at z0 z1
          have HND := Lib.hid hnd
          clear hbk hnd LC
          go_wp2_with fail
          refine LC0.out.mono ?_
          rintro e w5 ⟨rfl, rfl⟩
          go_wp2_with fail
          go_quiet (fail)
          go_wp2_with fail
          try simp only [Exit.inBlock, Exit.then]
          refine bodyPost_ret (ret4 rfl _ _ _) rfl ?_
          rw [show ans = _ from HA]
          refine ⟨⟨w2.heap.size, HB2.out.size, ⟨v0, v1, rs, rfl, rfl, ?_, ?_, ?_, ?_⟩⟩, below_draw (below_then HB2.out HB2.out.size HB.out) _⟩
          · exact own_keep HND.out ((Chg.refl [] wr).draw _) (by simp)
          · exact own_keep HI.out.top ((Chg.refl [] wr).draw _) (by simp)
          · exact fun p hp => own_keep (HI.out.inn p hp) ((Chg.refl [] wr).draw _) (by simp)
          · exact HI.out.apart
        | cons o os =>
          obtain ⟨m, hm⟩ : ∃ m, ts.length = m + 1 := by
            cases ts with
            | nil => have := HTK2.out; simp [toksS] at this
            | cons a b => exact ⟨_, rfl⟩
          obtain ⟨tl, htl'⟩ : ∃ tl, ts[m]? = some tl := ⟨_, List.getElem?_eq_getElem (by omega)⟩
          have hlast : ts.getLast? = some tl := by rw [List.getLast?_eq_getElem?, hm]; exact htl'
          obtain ⟨b, rfl, x0, _, _, _⟩ := tok_cells (own_keep HO.out (Chg.of_below (F := []) HB.out) (by simp)) htl'
          obtain ⟨o, ob', v⟩ := o
          have hans2 : ans = .error (o.at_, if tl.kind = 3 then 63 else 60) := by
            rw [show ans = _ from HA, hlast]
            unfold endS
            simp
          have HA2 := Lib.hid hans2
          have hob := (HI.out.ops _ (List.mem_cons_self ..)).2.1
          have y0 := blk_cell hob 0
          simp at y0
          have Y0 := Lib.hid y0
          have LC1 := Lib.hid (last_rd1 HI.out (by have := HINV.out.2.2.1; simp at this; omega))
          have e2 : decide ((k : Int) < (m : Int) + 1) = false := decide_eq_false (by omega)
          have e2' : decide (k < m + 1) = false := decide_eq_false (by omega)
          have b0 : (0 : Int) ≤ (m : Int) := by omega
          have b1 : (m : Int) < (m : Int) + 1 := by omega
          have b2 : (m : Int) < 4001 := by omega
          have b3 : (m : Int) + 1 - 1 = (m : Int) := by omega
          have x0' := Lib.hid x0
          clear hans2 hob y0 LC hlast htl' x0 hkl hk htl
          by_cases h3 : tl.kind = 3
          · have t3 : (tl.kind == 3) = true := by simp [h3]
            have H3 := Lib.hid h3
            clear h3
            go_wp2_with fail
            refine LC1.out.mono ?_
            rintro e w5 ⟨rfl, n5, hw5⟩
            have z0 : w5.cell? ⟨b, m * 4, none⟩ = some (.int .u8 tl.kind) := by rw [hw5]; exact x0'.out
            have z1 : w5.cell? ⟨ob', 0, none⟩ = some (.int .i64 o.at_) := by rw [hw5]; exact Y0.out
            have HB5 := Lib.hid (show Below w.heap.size w w5 by rw [hw5]; exact below_draw (below_then HB2.out HB2.out.size HB.out) _)
            clear hw5
            go_wp2_with fail
            go_quiet (fail)
            go_wp2_with fail
            try simp only [Exit.inBlock, Exit.then]
            refine bodyPost_ret (ret4 rfl _ _ _) rfl ?_
            rw [show ans = _ from HA2, if_pos H3.out]
            exact ⟨⟨_, HB2.out.size, rfl⟩, below_draw HB5.out _⟩
          · have t3 : (tl.kind == 3) = false := by simpa using h3
            have H3 := Lib.hid h3
            clear h3
            go_wp2_with fail
            refine LC1.out.mono ?_
            rintro e w5 ⟨rfl, n5, hw5⟩
            have z0 : w5.cell? ⟨b, m * 4, none⟩ = some (.int .u8 tl.kind) := by rw [hw5]; exact x0'.out
            have z1 : w5.cell? ⟨ob', 0, none⟩ = some (.int .i64 o.at_) := by rw [hw5]; exact Y0.out
            have HB5 := Lib.hid (show Below w.heap.size w w5 by rw [hw5]; exact below_draw (below_then HB2.out HB2.out.size HB.out) _)
            clear hw5
            go_wp2_with fail
            go_quiet (fail)
            go_wp2_with fail
            try simp only [Exit.inBlock, Exit.then]
            refine bodyPost_ret (ret4 rfl _ _ _) rfl ?_
            rw [show ans = _ from HA2, if_neg H3.out]
            exact ⟨⟨_, HB2.out.size, rfl⟩, below_draw HB5.out _⟩
end Go.Proofs.YthfbkhjcnfjmmaaDoor.ReadM

import Derived.Test.YthfbkhjcnfjmmaaDoorRefR4
import Derived.Test.YthfbkhjcnfjmmaaDoorRLexQ
import Derived.Test.YthfbkhjcnfjmmaaDoorReadP3
namespace Go.Proofs.YthfbkhjcnfjmmaaDoor.RefR
open Go Go.RowKit Go.Proofs.YthfbkhjcnfjmmaaDoor.Heap Go.Proofs.YthfbkhjcnfjmmaaDoor.ReadP Go.Proofs.YthfbkhjcnfjmmaaDoor.LexP
open Go.Proofs.YthfbkhjcnfjmmaaDoor.ReadM (Ints Nodes Apart nodeC own_ne own_blk_ne ints_nil two_cells below_chg below_chg0 apart_nil tokV ReadPost toks_take tok_cells intOf6 ret4 tokS_err)
open Go.Proofs.YthfbkhjcnfjmmaaDoor.Own (ob mem_ob own_slice own_keep Src app_step src_new one_nums)
open Go.Proofs.YthfbkhjcnfjmmaaDoorW.PrintWords (Aside0 below_then below_alloc own_typed Reps)
theorem reps_flat {α : Type} {R : α → List Value → Prop} {sz : Nat} {f : α → List Value} (hf : ∀ x c, R x c → c = f x) : ∀ (xs : List α) (cs : List Value), Reps R sz xs cs → cs = xs.flatMap f
  | [], cs, h => List.eq_nil_of_length_eq_zero (by simpa using h.1)
  | x :: xs, cs, h => by
    have h0 := hf _ _ (h.2 0 x rfl)
    rw [Nat.zero_mul, List.drop_zero] at h0
    have h1 := h.1
    rw [List.length_cons, Nat.add_mul, Nat.one_mul] at h1
    have h2 := reps_flat (R := R) (sz := sz) hf xs (cs.drop sz) ⟨by rw [List.length_drop]; omega, fun j p hp => by
      have := h.2 (j + 1) p hp
      rw [List.drop_drop]
      rwa [show sz + j * sz = (j + 1) * sz from by rw [Nat.add_mul, Nat.one_mul, Nat.add_comm]]⟩
    rw [List.flatMap_cons, ← h0, ← h2, List.take_append_drop]
/-- the document's lexer -/
theorem rlex_calls (s : ByteArray) (w : World) : Calls Tryd.prog 21 #[.string s] w fun e w' => (match lexF s.data.toList with
    | .error (i, er) => ∃ v, e = .returned (.tuple #[v, .int .i64 i, .int .i64 er])
    | .ok ts => ∃ B c, e = .returned (.tuple #[.slice B ts.length c, .int .i64 0, .int .i64 0]) ∧ w'.ownsRow w.heap.size 48 4 (.slice B ts.length c) ts.length (ts.flatMap Go.Proofs.YthfbkhjcnfjmmaaDoor.LexC.tokC)) ∧ Below w.heap.size w w' := by
  have h := Go.Proofs.YthfbkhjcnfjmmaaDoor.Pure.b_lex s (5 * s.size + 11) (by omega)
  cases hL : lexF s.data.toList with
  | error x =>
    obtain ⟨i, er⟩ := x
    rw [hL] at h
    refine (Go.Proofs.YthfbkhjcnfjmmaaDoor.PLexs.eddywheelref05_Lex.calls _ s _ _ _ w h).mono ?_
    rintro e w' ⟨v, rfl, _, hb⟩
    exact ⟨⟨v, rfl⟩, hb⟩
  | ok ts =>
    rw [hL] at h
    refine (Go.Proofs.YthfbkhjcnfjmmaaDoor.PLexs.eddywheelref05_Lex.calls _ s _ _ _ w h).mono ?_
    rintro e w' ⟨v, rfl, ⟨_, inner, hown, hr⟩, hb⟩
    obtain ⟨B, c, rfl⟩ := own_slice hown
    have hi := reps_flat (f := fun x => [.int .u8 x.f0, .int .i64 x.f1, .int .i64 x.f2, .string x.f3]) (fun x c hx => Go.Proofs.YthfbkhjcnfjmmaaDoor.PLexs.k48_openM hx) _ _ hr
    rw [List.nil_append] at hown hi
    rw [List.length_map] at hown
    have he : ((ts.map Go.Proofs.YthfbkhjcnfjmmaaDoor.Pure.toS).flatMap fun x => [Value.int .u8 x.f0, .int .i64 x.f1, .int .i64 x.f2, .string x.f3]) = ts.flatMap Go.Proofs.YthfbkhjcnfjmmaaDoor.LexC.tokC := by
      rw [List.flatMap_map]; rfl
    rw [hi, he] at hown
    refine ⟨⟨B, c, ?_, hown⟩, hb⟩
    rw [List.nil_append, List.length_map]
theorem rf_new (w : World) : IsRf (w.alloc (.cells #[.slice none 0 0, .slice none 0 0, .slice none 0 0] 57)) w.heap.size w.heap.size [] [] (.slice none 0 0) [] :=
  ⟨⟨_, _, blk_new rfl, World.ownsRow_nil _ _ _ _, World.ownsRow_nil _ _ _ _⟩, Nat.le_refl _, ints_nil _ _, (fun _ h => by cases h), (fun _ h => by cases h), by simp [Apart]⟩
/-- behind a quote alone it is open, and begins there -/
theorem toks_quote (ts : List Tok) (st st' : List Nd × List Int × List Pt) (t : Tok) (h : toksS st ts = .ok st') (hl : ts.getLast? = some t) (hk : t.kind = 3) : ∃ l os, st'.2.2 = ⟨t.pos, true, l⟩ :: os := by
  obtain ⟨ini, rfl⟩ : ∃ ini, ts = ini ++ [t] := by
    have hne : ts ≠ [] := by rintro rfl; simp at hl
    refine ⟨ts.dropLast, ?_⟩
    rw [List.getLast?_eq_some_getLast hne] at hl
    injection hl with hl
    rw [← hl, List.dropLast_concat_getLast]
  rw [toks_app] at h
  cases h1 : toksS st ini with
  | error e => rw [h1] at h; cases h
  | ok s1 =>
    rw [h1] at h
    simp only [toksS] at h
    have h2 : tokS s1 t = .ok st' := by
      cases h3 : tokS s1 t with
      | error e => rw [h3] at h; cases h
      | ok s2 => rw [h3] at h; simpa using h
    unfold tokS at h2
    rw [if_neg (by omega), if_neg (by omega), if_neg (by omega), if_neg (by omega), if_pos hk] at h2
    split at h2
    · cases h2
    · injection h2 with h2
      rw [← h2]
      simp [putS]
/-- a reader, and what is still to be read -/
def RfAt (ts : List Tok) (w : World) (base k : Nat) : Prop := ∃ rs tops v1 os, IsRf w base base rs tops v1 os ∧ Inv k (rs.map (·.1), tops, os.map (·.1)) ∧ toksS ([], [], []) ts = toksS (rs.map (·.1), tops, os.map (·.1)) (ts.drop k)
set_option maxHeartbeats 8000000 in
set_option maxRecDepth 100000 in
theorem read_calls (s : ByteArray) (w : World) :
    Calls Tryd.prog 12 #[.string s] w fun e w' => (∃ base, w.heap.size ≤ base ∧ ReadPost base (readF s.data.toList) e w') ∧ Below w.heap.size w w' := by
  have FS := rlex_calls s w
  unfold readF
  cases hL : lexF s.data.toList with
  | error x =>
    obtain ⟨i, er⟩ := x
    rw [hL] at FS
    simp only at FS
    have hne : er ≠ 0 := by
      unfold lexF at hL
      split at hL
      · injection hL with hL; injection hL with _ hL; omega
      · exact lexL_err _ _ _ _ _ (Nat.le_refl _) hL
    have t1 : (er == 0) = false := by simpa using hne
    have t1' : (er != 0) = true := by simpa using hne
    have FS' := Lib.hid FS
    clear FS hL hne
    go_enter Tryd.func12, Tryd.ntmps12
    go_wp2_with fail
    refine FS'.out.mono ?_
    rintro e w2 ⟨⟨v, rfl⟩, hb⟩
    have HB2 := Aside0.mk hb
    clear hb
    go_wp2_with fail
    refine bodyPost_ret (ret4 rfl _ _ _) rfl ?_
    exact ⟨⟨_, Nat.le_refl _, rfl⟩, HB2.out⟩
  | ok ts =>
    obtain ⟨hkd, htl⟩ := lexF_kinds hL
    rw [hL] at FS
    simp only at FS
    simp only
    have FS' := Lib.hid FS
    have HKD := Lib.hid hkd
    generalize hans : readT ts = ans
    unfold readT at hans
    have HANS := Lib.hid hans
    clear FS hL hkd hans
    go_enter Tryd.func12, Tryd.ntmps12
    go_wp2_with fail
    refine FS'.out.mono ?_
    rintro e w2 ⟨⟨Bt, ct, rfl, ho⟩, hb⟩
    have HB2 := Aside0.mk hb
    have HO := Lib.hid ho
    clear hb ho
    go_wp2_with fail
    go_loopw [10] (fun i wr => ∃ k : Nat, i = .int .i64 k ∧ k ≤ ts.length ∧ Hid (RfAt ts wr w2.heap.size k) ∧ Aside0 (Below w2.heap.size w2 wr)) (fun i _ => ts.length - (intOf6 i).toNat)
    case atStart => exact ⟨0, rfl, Nat.zero_le _, ⟨[], [], .slice none 0 0, [], rf_new w2, ⟨Nat.le_refl _, Nat.le_refl _, Nat.zero_le _, fun _ h => by cases h⟩, rfl⟩, ⟨(Below.refl _ _).alloc (Nat.le_refl _) _⟩⟩
    case round =>
      obtain ⟨k, rfl, hk, HR, HB⟩ := hrel
      obtain ⟨rs, tops, v1, os, hI, hinv, htk⟩ := HR.out
      have HI := Lib.hid hI
      have HINV := Lib.hid hinv
      have HTK := Lib.hid htk
      clear hI hinv htk HR
      by_cases hkl : k < ts.length
      · have e0 : decide ((k : Int) < (ts.length : Int)) = true := decide_eq_true (by omega)
        have e0' : decide (k < ts.length) = true := decide_eq_true hkl
        obtain ⟨t, ht⟩ : ∃ t, ts[k]? = some t := ⟨_, List.getElem?_eq_getElem hkl⟩
        obtain ⟨b, rfl, x0, x1, x2, x3⟩ := tok_cells (own_keep HO.out (Chg.of_below (F := []) HB.out) (by simp)) ht
        have q0 : (0 : Int) ≤ (k : Int) := by omega
        have q1 : (k : Int) < (ts.length : Int) := by omega
        have hst := toks_take ts k t (rs.map (·.1), tops, os.map (·.1)) ht
        have TC := token_all w2.heap.size w2.heap.size k rs tops v1 os t wr HI.out (HKD.out t (List.mem_of_getElem? ht)) HINV.out (by omega)
        have HT := Lib.hid ht
        clear ht
        cases hx : tokS (rs.map (·.1), tops, os.map (·.1)) t with
        | error er =>
          rw [hx] at TC hst
          have hne : er ≠ 0 := tokS_err hx
          have t1 : (er == 0) = false := by simpa using hne
          have t1' : (er != 0) = true := by simpa using hne
          have hans : ans = .error (t.pos, er) := by
            have h0 := HANS.out
            rw [show toksS ([], [], []) ts = _ from HTK, hst] at h0
            exact h0.symm
          have HA := Lib.hid hans
          have TC' := Lib.hid TC
          have X1 := Lib.hid x1
          clear TC hst hx hne hans
          go_wp2_with fail
          refine TC'.out.mono ?_
          rintro e w4 ⟨rfl, hc⟩
          have hbx := hc.cell X1.out (by simp)
          have HB4 := Aside0.mk (below_then HB.out HB.out.size hc.below)
          clear hc
          go_wp2_with fail
          go_quiet (fail)
          go_wp2_with fail
          try simp only [Exit.inBlock, Exit.then]
          refine bodyPost_ret (ret4 rfl _ _ _) rfl ?_
          rw [show ans = _ from HA]
          exact ⟨⟨_, HB2.out.size, rfl⟩, below_draw (below_then HB2.out HB2.out.size HB4.out) _⟩
        | ok st =>
          rw [hx] at TC hst
          have hin2 := tok_small HINV.out hx
          have HIN2 := Lib.hid hin2
          have HST := Lib.hid hst
          have TC' := Lib.hid TC
          have t1 : ((0 : Int) != 0) = false := rfl
          clear TC hst hx hin2
          go_wp2_with fail
          refine TC'.out.mono ?_
          rintro e w4 ⟨rfl, ⟨rs', v1', os', hI', e1, e2⟩, hc⟩
          have HI2 := Lib.hid hI'
          have E1 := Lib.hid e1
          have E2 := Lib.hid e2
          have HB4 := Aside0.mk (HB.out.trans hc)
          clear hI' e1 e2 hc
          go_wp2_with fail
          go_roundw
          case rel =>
            refine ⟨k + 1, by simp, by omega, ⟨rs', st.2.1, v1', os', HI2.out, ?_, ?_⟩, HB4⟩
            · rw [E1.out, E2.out]; exact HIN2.out
            · rw [E1.out, E2.out, show toksS ([], [], []) ts = _ from HTK, show toksS (rs.map (·.1), tops, os.map (·.1)) (ts.drop k) = _ from HST]
          case measure => simp [intOf6]; omega
      · have e0 : decide ((k : Int) < (ts.length : Int)) = false := decide_eq_false (by omega)
        have e0' : decide (k < ts.length) = false := decide_eq_false hkl
        have hkt : k = ts.length := by omega
        have htk := HTK.out
        rw [hkt, List.drop_length] at htk
        have hans : ans = endS ts.getLast? (rs.map (·.1), tops, os.map (·.1)) := by
          have h0 := HANS.out
          rw [htk] at h0
          exact h0.symm
        have HA := Lib.hid hans
        have HTK2 := Lib.hid htk
        clear htk hans hkt
        cases os with
        | nil =>
          obtain ⟨v0, A, c, hbk, hnd, _⟩ := HI.out.cells
          have z0 := blk_cell hbk 0
          have z1 := blk_cell hbk 1
          have z2 := blk_cell hbk 2
          simp at z0 z1 z2
          have HND := Lib.hid hnd
          clear hbk hnd
          go_wp2_with fail
          go_quiet (fail)
          go_wp2_with fail
          try simp only [Exit.inBlock, Exit.then]
          refine bodyPost_ret (ret4 rfl _ _ _) rfl ?_
          rw [show ans = _ from HA]
          refine ⟨⟨w2.heap.size, HB2.out.size, ⟨v0, v1, rs, rfl, rfl, ?_, ?_, ?_, ?_⟩⟩, below_draw (below_then HB2.out HB2.out.size HB.out) _⟩
          · exact own_keep HND.out ((Chg.refl [] wr).draw _) (by simp)
          · exact own_keep HI.out.top ((Chg.refl [] wr).draw _) (by simp)
          · exact fun p hp => own_keep (HI.out.inn p hp) ((Chg.refl [] wr).draw _) (by simp)
          · exact HI.out.apart
        | cons o os =>
          obtain ⟨m, hm⟩ : ∃ m, ts.length = m + 1 := by
            cases ts with
            | nil => have := HTK2.out; simp [toksS] at this
            | cons a b => exact ⟨_, rfl⟩
          obtain ⟨tl, htl'⟩ : ∃ tl, ts[m]? = some tl := ⟨_, List.getElem?_eq_getElem (by omega)⟩
          have hlast : ts.getLast? = some tl := by rw [List.getLast?_eq_getElem?, hm]; exact htl'
          obtain ⟨b, rfl, x0, x1, _, _⟩ := tok_cells (own_keep HO.out (Chg.of_below (F := []) HB.out) (by simp)) htl'
          obtain ⟨o, v⟩ := o
          have hans2 : ans = .error (o.at_, if tl.kind = 3 then 63 else 60) := by
            rw [show ans = _ from HA, hlast]
            unfold endS
            simp
          have HA2 := Lib.hid hans2
          have hqt : tl.kind = 3 → o.at_ = tl.pos := fun hk => by
            obtain ⟨l, os', he⟩ := toks_quote ts _ _ tl HTK2.out hlast hk
            simp only [List.map_cons] at he
            injection he with he _
            rw [he]
          have HQT := Lib.hid hqt
          obtain ⟨v0, gb, c, hbk, _, _, _, _, l0, l1, l2⟩ := HI.out.last
          have z2 := blk_cell hbk 2
          simp at z2
          have hol : os.length ≤ 50 := by have := HINV.out.2.2.1; simp at this; omega
          have f0 : decide ((0 : Int) < (os.length : Int) + 1) = true := decide_eq_true (by omega)
          have f1 : decide (0 < os.length + 1) = true := decide_eq_true (by omega)
          have g0 : (0 : Int) ≤ (os.length : Int) := by omega
          have g1 : (os.length : Int) < (os.length : Int) + 1 := by omega
          have g2 : (os.length : Int) ≤ 50 := by omega
          have g3 : (os.length : Int) + 1 - 1 = (os.length : Int) := by omega
          have g4 : IntKind.i64.wrap (os.length : Int) = (os.length : Int) := IntWalk.i64_in _ (by omega)
          have e2 : decide ((k : Int) < (m : Int) + 1) = false := decide_eq_false (by omega)
          have e2' : decide (k < m + 1) = false := decide_eq_false (by omega)
          have b0 : (0 : Int) ≤ (m : Int) := by omega
          have b1 : (m : Int) < (m : Int) + 1 := by omega
          have b2 : (m : Int) < 4001 := by omega
          have b3 : (m : Int) + 1 - 1 = (m : Int) := by omega
          have b4 : IntKind.i64.wrap (m : Int) = (m : Int) := IntWalk.i64_in _ (by omega)
          clear hans2 hbk hlast htl' hqt hkl hk htl l1 l2 hol
          by_cases h3 : tl.kind = 3
          · have t3 : (tl.kind == 3) = true := by simp [h3]
            have H3 := Lib.hid h3
            clear h3
            go_wp2_with fail
            go_quiet (fail)
            go_wp2_with fail
            try simp only [Exit.inBlock, Exit.then]
            refine bodyPost_ret (ret4 rfl _ _ _) rfl ?_
            rw [show ans = _ from HA2, if_pos H3.out, HQT.out H3.out]
            exact ⟨⟨_, HB2.out.size, rfl⟩, below_draw (below_then HB2.out HB2.out.size HB.out) _⟩
          · have t3 : (tl.kind == 3) = false := by simpa using h3
            have H3 := Lib.hid h3
            clear h3
            go_wp2_with fail
            go_quiet (fail)
            go_wp2_with fail
            try simp only [Exit.inBlock, Exit.then]
            refine bodyPost_ret (ret4 rfl _ _ _) rfl ?_
            rw [show ans = _ from HA2, if_neg H3.out]
            exact ⟨⟨_, HB2.out.size, rfl⟩, below_draw (below_then HB2.out HB2.out.size HB.out) _⟩
end Go.Proofs.YthfbkhjcnfjmmaaDoor.RefR

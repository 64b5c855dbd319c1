/- The walk of LexBack: for any text the law answers true; its premise is what the row lays. -/
import Derived.Test.YtkgfnkilanpaoaaDoorLexD
import Derived.Test.YtkgfnkilanpaoaaDoorLexCt
import Derived.Test.YtkgfnkilanpaoaaDoorLexQ8
import Derived.Test.YtkgfnkilanpaoaaDoorRows
import Derived.Deep.RegionHeld3
import Derived.IntWalk
namespace Go.Proofs.YtkgfnkilanpaoaaDoor.PLexs
open Go Go.RowKit Go.Proofs.YtkgfnkilanpaoaaDoor.LexP Go.Proofs.YtkgfnkilanpaoaaDoor.LexC Go.Proofs.YtkgfnkilanpaoaaDoor.Own Go.Proofs.YtkgfnkilanpaoaaDoorW.PrintWords Go.Proofs.YtkgfnkilanpaoaaDoorW.PrintLast Go.Proofs.YtkgfnkilanpaoaaDoorW.PrintMore
set_option maxHeartbeats 4000000 in
set_option maxRecDepth 100000 in
theorem back_big (s : ByteArray) (w : World) (hV : Vars w) (hbig : 1000 < s.size) :
    Calls Tryd.prog 4 #[.string s] w fun e w' => e = .returned (.bool true) ∧ Below w.heap.size w w' := by
  have c1 : decide (1000 < (s.size : Int)) = true := decide_eq_true (by omega)
  have c2 : decide (1000 < s.size) = true := decide_eq_true hbig
  clear hbig
  go_enter Tryd.func4, Tryd.ntmps4
  go_wp2_with fail
  refine (eddywheellaw05_shown.calls 6 true _ (Go.Proofs.YtkgfnkilanpaoaaDoor.Pure.shown_ok 6 (by omega)) ⟨hV⟩).mono ?_
  rintro e w1 ⟨rfl, hb⟩
  go_wp2
  go_ret
  exact ⟨rfl, hb⟩
set_option maxHeartbeats 8000000 in
set_option maxRecDepth 100000 in
theorem back_small (s : ByteArray) (w : World) (hV : Vars w) (hs : s.size ≤ 1000) :
    Calls Tryd.prog 4 #[.string s] w fun e w' => e = .returned (.bool true) ∧ Below w.heap.size w w' := by
  have c1 : decide (1000 < (s.size : Int)) = false := decide_eq_false (by omega)
  have c2 : decide (1000 < s.size) = false := decide_eq_false (by omega)
  have hzs := Lib.size_eq s
  have FS := fun w hV => lex_calls s w hV
  rw [lexF_eq (by omega)] at FS
  replace hV := Aside0.mk hV
  cases hR : lexL 0 s.data.toList with
  | error x =>
    obtain ⟨i, er⟩ := x
    have hne := lexL_err _ _ _ _ _ (Nat.le_refl _) hR
    rw [hR] at FS
    simp only [LexPost] at FS
    have t1 : (er == 0) = false := by simpa using hne
    have t1' : (er != 0) = true := by simpa using hne
    have FS' := Lib.hid FS
    clear FS hR hne hzs
    go_enter Tryd.func4, Tryd.ntmps4
    go_wp2_with fail
    refine (eddywheellaw05_shown.calls 6 true _ (Go.Proofs.YtkgfnkilanpaoaaDoor.Pure.shown_ok 6 (by omega)) hV).mono ?_
    rintro e w1 ⟨rfl, hb⟩
    have HB := Aside0.mk hb
    have V1 := Aside0.mk (hV.out.below HB.out (Nat.le_refl _))
    clear hb
    go_wp2_with fail
    refine (FS'.out w1 V1.out).mono ?_
    rintro e w2 ⟨rfl, hb⟩
    have HB2 := Aside0.mk (below_then HB.out HB.out.size hb)
    clear hb
    go_wp2_with fail
    go_ret
    exact ⟨rfl, HB2.out⟩
  | ok ts =>
    have hst := stand_ok s.data.toList s.data.toList.length 0 ts (-1) (by omega) (by omega) (by omega) (by rw [List.drop_zero]; exact hR)
    have hag := stand_again _ _ _ hst
    have hla := lex_again ts 0 hag
    have htl := Go.Proofs.YtkgfnkilanpaoaaDoor.Pure.out_len hR
    rw [hR] at FS
    simp only [LexPost] at FS
    rw [← hzs] at htl
    have HST := Lib.hid hst
    have HLA := Lib.hid hla
    have HZ := Lib.hid hzs
    have FS' := Lib.hid FS
    clear FS hR hst hag hla hzs
    go_enter Tryd.func4, Tryd.ntmps4
    go_wp2_with fail
    refine (eddywheellaw05_shown.calls 6 true _ (Go.Proofs.YtkgfnkilanpaoaaDoor.Pure.shown_ok 6 (by omega)) hV).mono ?_
    rintro e w1 ⟨rfl, hb⟩
    have HB := Aside0.mk hb
    have V1 := Aside0.mk (hV.out.below HB.out (Nat.le_refl _))
    clear hb
    go_wp2_with fail
    refine (FS'.out w1 V1.out).mono ?_
    rintro e w2 ⟨⟨Ba, ca, rfl, ho⟩, hb⟩
    have HB2 := Aside0.mk (below_then HB.out HB.out.size hb)
    have HCA := Aside0.mk (C_tok ho).2
    clear hb ho
    go_wp2_with fail
    go_loopw [7, 8, 9, 36] (fun v7 v8 v9 i wr => ∃ (k : Nat) (S : ByteArray) (B : Option Addr) (c : Nat) (last : Int), v7 = .string S ∧ v8 = .slice B k c ∧ v9 = .int .i64 last ∧ i = .int .i64 k ∧ k ≤ ts.length ∧ -1 ≤ last ∧ last ≤ 1000 ∧ S.size ≤ k * 1020 ∧ Hid (S.data.toList = againL (ts.take k)) ∧ Hid (Stand s.data.toList last (ts.drop k)) ∧ Aside0 (wr.ownsRow w2.heap.size 30 4 (.slice B k c) k ((wantL 0 (ts.take k)).flatMap tokC)) ∧ Aside0 (Below w2.heap.size w2 wr)) (fun _ _ _ i _ => ts.length - (intOf5 i).toNat)
    case atStart => exact ⟨0, ⟨#[]⟩, none, 0, -1, rfl, rfl, rfl, rfl, Nat.zero_le _, by omega, by omega, by decide, rfl, HST, ⟨World.ownsRow_nil _ _ _ _⟩, ⟨Below.refl _ _⟩⟩
    case round =>
      obtain ⟨k, S, B, c, last, rfl, rfl, rfl, rfl, hk, hl0, hl1, hSz, HS, HST, HOW, HBL⟩ := hrel
      by_cases hkl : k < ts.length
      · have e0 : decide ((k : Int) < (ts.length : Int)) = true := decide_eq_true (by omega)
        have e0' : decide (k < ts.length) = true := decide_eq_true hkl
        obtain ⟨ad, hA, x0, x1, x2, x3⟩ := at_T30 (Kd.C_below HCA.out HBL.out) (k : Int) (by omega) (by omega)
        obtain ⟨tk, htk⟩ : ∃ tk, ts[k]? = some tk := ⟨_, List.getElem?_eq_getElem hkl⟩
        have hrd : rd_T30 (ts.map toS) (k : Int) = toS tk := by
          unfold rd_T30; rw [Int.toNat_natCast, List.getD_eq_getElem?_getD, List.getElem?_map, htk]; rfl
        have hdrop : ts.drop k = tk :: ts.drop (k + 1) := by
          rw [List.drop_eq_getElem_cons hkl]; congr 1; exact (List.getElem?_eq_some_iff.1 htk).2
        have hst := HST.out
        rw [hdrop] at hst
        obtain ⟨s1, s2, _, ⟨s4, s5, s6⟩, s7, s8⟩ := hst
        rw [← show s.size = _ from HZ] at s2 s7
        rw [hrd] at x0 x1 x2 x3
        rw [Int.toNat_natCast] at x0 x1 x2 x3
        simp only [toS] at x0 x1 x2 x3
        cases hA
        obtain ⟨kd, pos, n, sb⟩ := tk
        simp only at *
        obtain ⟨p, rfl⟩ : ∃ p : Nat, pos = p := ⟨pos.toNat, by omega⟩
        have q0 : (0 : Int) ≤ (k : Int) := by omega
        have q1 : (k : Int) < (ts.length : Int) := by omega
        have HTK := Lib.hid htk
        have HST2 := Lib.hid s8
        have p1 : (p : Int) < 1000 := by omega
        have d1 : decide ((p : Int) ≤ last) = false := decide_eq_false (by omega)
        have d2 : decide ((s.size : Int) ≤ (p : Int)) = false := decide_eq_false (by omega)
        have d2' : decide (s.size ≤ p) = false := decide_eq_false (by omega)
        clear hrd htk hdrop s8
        have TC : Hid (∀ (P : Int) (W : World), Heap.Chg [] (wr.alloc (.cells #[.int .u8 kd, .int .i64 p, .int .i64 n, .string ⟨sb.toArray⟩] 30)) W → Calls Tryd.prog 13 #[.agg #[.int .u8 kd, .int .i64 P, .int .i64 n, .string ⟨sb.toArray⟩]] W fun e w' => e = .returned (.string ⟨(textL ⟨kd, p, n, sb⟩).toArray⟩) ∧ Heap.Chg [] (wr.alloc (.cells #[.int .u8 kd, .int .i64 p, .int .i64 n, .string ⟨sb.toArray⟩] 30)) w') := Lib.hid (fun P W hc => (text_calls ⟨kd, P, n, sb⟩ W (by simp only; omega) (by simp only; omega) s4).mono (fun e w' h => ⟨h.1, hc.same (Heap.Chg.of_below h.2)⟩))
        have htl := text_len s.data.toList ⟨kd, p, n, sb⟩ (fun h => by rw [← show s.size = _ from HZ]; exact (s7 h).1) (by simp only; omega)
        obtain ⟨T, hT⟩ : ∃ T : ByteArray, T = ⟨(textL ⟨kd, p, n, sb⟩).toArray⟩ := ⟨_, rfl⟩
        have hTl : T.data.toList = textL ⟨kd, p, n, sb⟩ := by rw [hT]
        have hTz : T.size ≤ 1015 := by rw [Lib.size_eq, hTl]; rw [← show s.size = _ from HZ] at htl; omega
        rw [← hT] at TC
        have HTL := Lib.hid hTl
        have s7' : kd ≠ 4 → p + T.size ≤ s.size ∧ s.extract p (p + T.size) = T := fun h => by
          obtain ⟨g1, g2⟩ := s7 h
          have e : T.size = (textL ⟨kd, p, n, sb⟩).length := by rw [Lib.size_eq, hTl]
          rw [e]
          refine ⟨by omega, ?_⟩
          rw [hT]
          apply Go.Proofs.YtkgfnkilanpaoaaDoor.Pure.ba_eq
          rw [ext_list, show p + (textL ⟨kd, p, n, sb⟩).length - p = (textL ⟨kd, p, n, sb⟩).length from by omega]
          rw [Int.toNat_natCast] at g2
          exact g2
        have TD : Hid (∀ (P : Int) (W : World), Calls Tryd.prog 13 #[.agg #[.int .u8 kd, .int .i64 P, .int .i64 n, .string ⟨sb.toArray⟩]] W fun e w' => e = .returned (.string T) ∧ Below W.heap.size W w') := Lib.hid (fun P W => by
          rw [hT]
          exact text_calls ⟨kd, P, n, sb⟩ W (by simp only; omega) (by simp only; omega) s4)
        clear s7 htl hT hTl s4 s5 s6 s1 s2
        have X0 : Hid (∀ W, Heap.Chg [] (wr.alloc (.cells #[.int .u8 kd, .int .i64 p, .int .i64 n, .string ⟨sb.toArray⟩] 30)) W → W.heap[wr.heap.size]? = some (.cells #[.int .u8 kd, .int .i64 p, .int .i64 n, .string ⟨sb.toArray⟩] 30 (0, 0))) := Lib.hid (fun W h => h.at (Heap.blk_new rfl) (by simp))
        have KEEP : Hid (∀ W, Heap.Chg [] (wr.alloc (.cells #[.int .u8 kd, .int .i64 p, .int .i64 n, .string ⟨sb.toArray⟩] 30)) W → W.cell? ⟨wr.heap.size, 0, none⟩ = some (.int .u8 kd) ∧ W.cell? ⟨wr.heap.size, 1, none⟩ = some (.int .i64 p) ∧ W.cell? ⟨wr.heap.size, 2, none⟩ = some (.int .i64 n) ∧ W.cell? ⟨wr.heap.size, 3, none⟩ = some (.string ⟨sb.toArray⟩)) := Lib.hid (fun W h => by
          have hb := X0.out W h
          exact ⟨Heap.blk_cell hb 0, Heap.blk_cell hb 1, Heap.blk_cell hb 2, Heap.blk_cell hb 3⟩)
        go_upto_region 13 with fail
        go_cut [81] (fun v wx => v = .bool false ∧ Hid (Heap.Chg [] (wr.alloc (.cells #[.int .u8 kd, .int .i64 p, .int .i64 n, .string ⟨sb.toArray⟩] 30)) wx))
        case first =>
          by_cases h4 : kd = 4
          · have k4 : (kd == 4) = true := by simp [h4]
            have k4' : (kd != 4) = false := by simp [h4]
            clear h4 s7'
            go_quiet (fail)
            go_wp2
            go_meet
            exact ⟨rfl, Lib.hid (by repeat (first | exact Heap.Chg.refl _ _ | apply Heap.Chg.draw | apply Heap.Chg.drew))⟩
          · have k4 : (kd == 4) = false := by simp [h4]
            have k4' : (kd != 4) = true := by simp [h4]
            obtain ⟨g1, g2⟩ := s7' h4
            have d3 : decide ((s.size : Int) < (p : Int) + (T.size : Int)) = false := decide_eq_false (by omega)
            have d3' : decide (s.size < p + T.size) = false := decide_eq_false (by omega)
            have b1 : (0 : Int) ≤ (p : Int) := by omega
            have b2 : (p : Int) ≤ (p : Int) + (T.size : Int) := by omega
            have b3 : (p : Int) + (T.size : Int) ≤ (s.size : Int) := by omega
            clear h4 s7'
            have b4 : (0 : Int) ≤ (p : Int) + (T.size : Int) := by omega
            have w1 : IntKind.i64.wrap ((p : Int) + (T.size : Int)) = (p : Int) + (T.size : Int) := IntWalk.i64_in _ (by omega)
            have w2' : ((p : Int) + (T.size : Int)).toNat = p + T.size := by omega
            go_region_held3 (fun w' => w'.cell? ⟨wr.heap.size, 0, none⟩ = some (.int .u8 kd) ∧ w'.cell? ⟨wr.heap.size, 1, none⟩ = some (.int .i64 p) ∧ w'.cell? ⟨wr.heap.size, 2, none⟩ = some (.int .i64 n) ∧ w'.cell? ⟨wr.heap.size, 3, none⟩ = some (.string ⟨sb.toArray⟩))
              (first | go_keep | exact KEEP.out _ (by repeat (first | assumption | exact Heap.Chg.refl _ _ | apply Heap.Chg.drew | apply Heap.Chg.draw)))
              ((go_at_call 13; refine (TC.out _ _ (by repeat (first | assumption | exact Heap.Chg.refl _ _ | apply Heap.Chg.drew | apply Heap.Chg.draw))).mono ?_; rintro e w3 ⟨rfl, hc3⟩))
            all_goals
              go_wp2
              go_meet
              exact ⟨rfl, Lib.hid (by repeat (first | assumption | exact Heap.Chg.refl _ _ | apply Heap.Chg.draw | apply Heap.Chg.drew))⟩
        case rest =>
          obtain ⟨rfl, HCX⟩ := hcut
          obtain ⟨y0, y1, y2, y3⟩ := KEEP.out _ HCX
          have hbk := X0.out _ HCX
          have hfz := Heap.blk_frozen hbk 1
          have HBK := Aside0.mk hbk
          have HC0 := Aside0.mk (((Heap.Chg.refl [] wr).alloc (.cells #[.int .u8 kd, .int .i64 p, .int .i64 n, .string ⟨sb.toArray⟩] 30)).sub HCX)
          have hSl : S.size < 1030000 := by omega
          clear TC KEEP X0 hbk
          clear HCX
          go_wp2_with (first | (at_builtin; refine app rfl (.tmp 87) (.tmp 89) 23 rfl w2.heap.size 30 _ 4 40 Tryd.underlying23 infoTok rfl (by decide) (by decide) _ k _ rfl (own_keep HOW.out ((HC0.out.set ⟨wr.heap.size, 1, none⟩ (.int .i64 (S.size : Int)) (.inr (Nat.le_refl _))).alloc (.cells #[.int .u8 kd, .int .i64 (S.size : Int), .int .i64 n, .string ⟨sb.toArray⟩] 30)) (by simp)) _ 1 _ rfl (src_new [.int .u8 kd, .int .i64 (S.size : Int), .int .i64 n, .string ⟨sb.toArray⟩] 30 4 1 1 _ rfl (by simp)) (by intro u hu; simp at hu; rcases hu with rfl | rfl | rfl | rfl <;> rfl) (by have h1 := HBL.out.size; have h2 := HC0.out.size; show _ ≤ (World.alloc _ _).heap.size; simp; omega) (by omega) ?_; intro B2 c2 w5 ho5 hc5 _; have hb5 := (HBK.out); have hq5 := hc5.at (Heap.blk_old (by have h2 := HC0.out.size; have h3 := Heap.blk_lt HBK.out; simpa using h3) (Heap.blk_set hb5 1 (.int .i64 (S.size : Int)))) (by intro hm; have := (HOW.out.lt _ (mem_ob.1 hm)).2; omega); have hz0 := Heap.blk_cell hq5 0; have hz1 := Heap.blk_cell hq5 1; have hz2 := Heap.blk_cell hq5 2; have hz3 := Heap.blk_cell hq5 3; simp at hz0 hz1 hz2 hz3; clear hb5 hq5) | (go_at_call 13; refine (TD.out _ _).mono ?_; rintro e w6 ⟨rfl, hb6⟩))
          go_roundw
          case rel =>
            have hTz : (T ++ (⟨#[32]⟩ : ByteArray)).size = T.size + 1 := by rw [Lib.size_eq, Lib.size_eq]; simp [ByteArray.data_append]
            have hSz' : (S ++ (T ++ (⟨#[32]⟩ : ByteArray))).size = S.size + (T.size + 1) := by rw [← hTz, Lib.size_eq, Lib.size_eq, Lib.size_eq]; simp [ByteArray.data_append]
            have htake : ts.take (k + 1) = ts.take k ++ [⟨kd, (p : Int), n, sb⟩] := by
              rw [List.take_add_one, show ts[k]? = some _ from HTK]; rfl
            refine ⟨k + 1, _, B2, c2, (p : Int), rfl, rfl, rfl, by simp, by omega, by omega, by omega, by rw [hSz']; omega, ?_, HST2, ?_, ⟨?_⟩⟩
            · show (S ++ (T ++ (⟨#[32]⟩ : ByteArray))).data.toList = againL _
              rw [htake]
              unfold againL
              rw [List.flatMap_append, show (ts.take k).flatMap (fun t => textL t ++ [32]) = S.data.toList from (show S.data.toList = _ from HS).symm]
              simp [ByteArray.data_append, show T.data.toList = _ from HTL]
            · have e : (wantL 0 (ts.take (k + 1))).flatMap tokC = (wantL 0 (ts.take k)).flatMap tokC ++ [.int .u8 kd, .int .i64 (S.size : Int), .int .i64 n, .string ⟨sb.toArray⟩] := by
                rw [htake, wantL_app, List.flatMap_append, Nat.zero_add, ← show S.data.toList = _ from HS, ← Lib.size_eq]
                rfl
              rw [e]
              exact ⟨own_keep ho5 (Heap.Chg.of_below (F := []) hb6) (by simp)⟩
            · have h1 : Heap.Chg [] w2 w5 := ((((Heap.Chg.of_below (F := []) HBL.out).sub HC0.out).set ⟨wr.heap.size, 1, none⟩ (.int .i64 (S.size : Int)) (.inr HBL.out.size)).alloc (.cells #[.int .u8 kd, .int .i64 (S.size : Int), .int .i64 n, .string ⟨sb.toArray⟩] 30)).trans hc5 (fun b hb => .inr (HOW.out.lt b (mem_ob.1 hb)).1)
              exact below_then h1.below h1.size hb6
          case measure => simp [intOf5]; omega
      · have e0 : decide ((k : Int) < (ts.length : Int)) = false := decide_eq_false (by omega)
        have e0' : decide (k < ts.length) = false := decide_eq_false hkl
        have hkt : k = ts.length := by omega
        have HK := Lib.hid hkt
        have hS := HS.out
        rw [hkt, List.take_length] at hS
        have hSs := Lib.size_eq S
        by_cases hbig : 4000 < S.size
        · have c3 : decide (4000 < (S.size : Int)) = true := decide_eq_true (by omega)
          have c3' : decide (4000 < S.size) = true := decide_eq_true hbig
          clear hkt hS hSs hbig
          go_wp2_with fail
          go_ret
          exact ⟨rfl, below_then HB2.out HB2.out.size HBL.out⟩
        · have c3 : decide (4000 < (S.size : Int)) = false := decide_eq_false (by omega)
          have c3' : decide (4000 < S.size) = false := decide_eq_false hbig
          have FG := fun w hV => lex_calls S w hV
          rw [lexF_eq (by omega), hS, show lexL 0 (againL ts) = _ from HLA] at FG
          simp only [LexPost] at FG
          rw [wantL_len] at FG
          have FG' := Lib.hid FG
          have hlw : (wantL 0 ts).length = ts.length := wantL_len ts 0
          have hOW := HOW.out
          rw [hkt, List.take_length] at hOW
          have HOW2 := Aside0.mk hOW
          have V2 := Aside0.mk (hV.out.below HB2.out (Nat.le_refl _))
          have V3 := Aside0.mk (V2.out.below HBL.out (Nat.le_refl _))
          clear hkt hS hSs hbig FG hOW HOW
          go_wp2_with fail
          refine (FG'.out wr V3.out).mono ?_
          rintro e w6 ⟨⟨Bm, cm, rfl, ho⟩, hb⟩
          have HOM := C_tok (ts := wantL 0 ts) (c := cm) (B := Bm) (base := wr.heap.size) (w := w6) (by rw [hlw]; exact ho)
          have HOX := C_tok (ts := wantL 0 ts) (c := c) (B := B) (base := w2.heap.size) (w := w6) (by rw [hlw]; exact own_keep HOW2.out (Heap.Chg.of_below (F := []) hb) (by simp))
          have hln : ((wantL 0 ts).map toS).length = ts.length := by rw [List.length_map, hlw]
          have hsame := Go.Proofs.YtkgfnkilanpaoaaDoor.Pure.same_ok ((wantL 0 ts).map toS) 1100 (by rw [hln]; omega) (by rw [hln]; omega)
          have SC := eddywheelref05_Same.calls 1100 Bm cm _ B c _ true w6 (by rw [List.length_map]; exact HOM.2) (by rw [List.length_map]; exact HOM.1) (by rw [List.length_map]; exact HOX.2) (by rw [List.length_map]; exact HOX.1) hsame
          rw [hln] at SC
          have SC' := Lib.hid SC
          have HB6 := Aside0.mk (below_then HB2.out HB2.out.size (below_then HBL.out HBL.out.size hb))
          clear SC hsame HOM HOX hln hlw ho hb
          go_wp2_with fail
          rw [show k = ts.length from HK]
          refine SC'.out.mono ?_
          rintro e w9 ⟨rfl, hd⟩
          have HB9 := Aside0.mk (below_then HB6.out HB6.out.size hd.below)
          clear hd
          go_wp2_with fail
          go_ret
          exact ⟨rfl, HB9.out⟩
theorem walkLexBack (s : ByteArray) (w : World) (hL : laidMetH Tryd.prog Rows.lexBackRow.laid w) (_hs : s.size ≤ maxLen) :
    Calls Tryd.prog 4 #[.string s] w fun e w' => e = .returned (.bool true) ∧ Below w.heap.size w w' := by
  have hV := vars_of hL (by kernel_rfl) (by kernel_rfl)
  by_cases h : 1000 < s.size
  · exact back_big s w hV h
  · exact back_small s w hV (by omega)
end Go.Proofs.YtkgfnkilanpaoaaDoor.PLexs

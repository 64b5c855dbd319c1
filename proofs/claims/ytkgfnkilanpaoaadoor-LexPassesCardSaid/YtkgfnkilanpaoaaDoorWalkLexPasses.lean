/- The walk of LexPasses: for any text and blanks the law answers true; its premise is what the row lays. -/
import Derived.Test.YtkgfnkilanpaoaaDoorLexQ8
import Derived.Test.YtkgfnkilanpaoaaDoorLexCt
import Derived.Test.YtkgfnkilanpaoaaDoorRows
namespace Go.Proofs.YtkgfnkilanpaoaaDoor.PLexs
open Go Go.RowKit Go.Proofs.YtkgfnkilanpaoaaDoor.LexP Go.Proofs.YtkgfnkilanpaoaaDoor.LexC Go.Proofs.YtkgfnkilanpaoaaDoor.Own Go.Proofs.YtkgfnkilanpaoaaDoorW.PrintWords Go.Proofs.YtkgfnkilanpaoaaDoorW.PrintLast Go.Proofs.YtkgfnkilanpaoaaDoorW.PrintMore
set_option maxHeartbeats 4000000 in
set_option maxRecDepth 100000 in
theorem passes_big (s : ByteArray) (n kd : Int) (w : World) (hV : Vars w) (hbig : 1000 < s.size) :
    Calls Tryd.prog 5 #[.string s, .int .u8 n, .int .u8 kd] w fun e w' => e = .returned (.bool true) ∧ Below w.heap.size w w' := by
  have c1 : decide (1000 < (s.size : Int)) = true := decide_eq_true (by omega)
  have c2 : decide (1000 < s.size) = true := decide_eq_true hbig
  clear hbig
  go_enter Tryd.func5, Tryd.ntmps5
  go_wp2_with fail
  refine (eddywheellaw05_shown.calls 6 true _ (Go.Proofs.YtkgfnkilanpaoaaDoor.Pure.shown_ok 6 (by omega)) ⟨hV⟩).mono ?_
  rintro e w1 ⟨rfl, hb⟩
  go_wp2
  go_ret
  exact ⟨rfl, hb⟩
set_option maxHeartbeats 8000000 in
set_option maxRecDepth 100000 in
theorem passes_small (s : ByteArray) (n kd : Int) (w : World) (hV : Vars w) (hs : s.size ≤ 1000) (hn0 : 0 ≤ n) (hn1 : n ≤ 255) (hk0 : 0 ≤ kd) (hk1 : kd ≤ 255) :
    Calls Tryd.prog 5 #[.string s, .int .u8 n, .int .u8 kd] w fun e w' => e = .returned (.bool true) ∧ Below w.heap.size w w' := by
  have c1 : decide (1000 < (s.size : Int)) = false := decide_eq_false (by omega)
  have c2 : decide (1000 < s.size) = false := decide_eq_false (by omega)
  obtain ⟨m, hm⟩ : ∃ m : Nat, n % 9 = m := ⟨(n % 9).toNat, by omega⟩
  obtain ⟨q, hq⟩ : ∃ q : Nat, kd % 4 = q := ⟨(kd % 4).toNat, by omega⟩
  have hm9 : m < 9 := by omega
  have hq4 : q < 4 := by omega
  have HQ := Lib.hid hq
  have HM := Lib.hid hm
  have hzs := Lib.hid (Lib.size_eq s)
  clear hq hm
  replace hV := Aside0.mk hV
  go_enter Tryd.func5, Tryd.ntmps5
  go_wp2_with fail
  refine (eddywheellaw05_shown.calls 6 true _ (Go.Proofs.YtkgfnkilanpaoaaDoor.Pure.shown_ok 6 (by omega)) hV).mono ?_
  rintro e w1 ⟨rfl, hb⟩
  have HB := Aside0.mk hb
  clear hb
  go_wp2_with fail
  go_loopw [8, 27] (fun v i wr => ∃ (j : Nat) (S : ByteArray), v = .string S ∧ i = .int .u8 j ∧ j ≤ m ∧ S.size ≤ 54 ∧ Hid (S.data.toList = rep j (piece q)) ∧ Aside0 (Below w.heap.size w wr)) (fun _ i _ => m - (intOf5 i).toNat)
  case atStart => exact ⟨0, ⟨#[]⟩, rfl, rfl, Nat.zero_le _, by decide, rfl, HB⟩
  case round =>
    obtain ⟨j, S, rfl, rfl, hj, hS, HS, HB⟩ := hrel
    by_cases hjm : j < m
    · have e0 : decide ((j : Int) < n % 9) = true := decide_eq_true (by have : n % 9 = m := HM; omega)
      have hq' := HQ.out
      have hS2 : S.size ≤ j * 6 := by
        rw [Lib.size_eq, show S.data.toList = rep j (piece q) from HS]; exact rep_len q j
      have hj9 : (j : Int) < 9 := by omega
      obtain rfl | rfl | rfl | rfl : q = 0 ∨ q = 1 ∨ q = 2 ∨ q = 3 := by omega
      · go_wp2
        go_roundw
        case rel =>
          have hlist : ∀ (x : ByteArray) (l : List UInt8), x.data.toList = l → (S ++ x).data.toList = rep j (piece 0) ++ l ∧ (S ++ x).size = S.size + l.length := fun x l hx => by
            rw [Lib.size_eq, Lib.size_eq]; simp [ByteArray.data_append, ← hx, show S.data.toList = _ from HS]
          have hx := hlist (⟨#[32]⟩ : ByteArray) (piece 0) rfl
          have h6 : (piece 0).length ≤ 6 := by decide
          exact ⟨j + 1, _, rfl, by simp, by omega, by rw [hx.2]; omega, hx.1, ⟨by repeat (first | exact HB.out | apply below_alloc)⟩⟩
        case measure => simp [intOf5]; omega
      · go_wp2
        go_roundw
        case rel =>
          have hlist : ∀ (x : ByteArray) (l : List UInt8), x.data.toList = l → (S ++ x).data.toList = rep j (piece 1) ++ l ∧ (S ++ x).size = S.size + l.length := fun x l hx => by
            rw [Lib.size_eq, Lib.size_eq]; simp [ByteArray.data_append, ← hx, show S.data.toList = _ from HS]
          have hx := hlist (⟨#[9]⟩ : ByteArray) (piece 1) rfl
          have h6 : (piece 1).length ≤ 6 := by decide
          exact ⟨j + 1, _, rfl, by simp, by omega, by rw [hx.2]; omega, hx.1, ⟨by repeat (first | exact HB.out | apply below_alloc)⟩⟩
        case measure => simp [intOf5]; omega
      · go_wp2
        go_roundw
        case rel =>
          have hlist : ∀ (x : ByteArray) (l : List UInt8), x.data.toList = l → (S ++ x).data.toList = rep j (piece 2) ++ l ∧ (S ++ x).size = S.size + l.length := fun x l hx => by
            rw [Lib.size_eq, Lib.size_eq]; simp [ByteArray.data_append, ← hx, show S.data.toList = _ from HS]
          have hx := hlist (⟨#[10]⟩ : ByteArray) (piece 2) rfl
          have h6 : (piece 2).length ≤ 6 := by decide
          exact ⟨j + 1, _, rfl, by simp, by omega, by rw [hx.2]; omega, hx.1, ⟨by repeat (first | exact HB.out | apply below_alloc)⟩⟩
        case measure => simp [intOf5]; omega
      · go_wp2
        go_roundw
        case rel =>
          have hlist : ∀ (x : ByteArray) (l : List UInt8), x.data.toList = l → (S ++ x).data.toList = rep j (piece 3) ++ l ∧ (S ++ x).size = S.size + l.length := fun x l hx => by
            rw [Lib.size_eq, Lib.size_eq]; simp [ByteArray.data_append, ← hx, show S.data.toList = _ from HS]
          have hx := hlist (⟨#[59, 32, 40, 32, 120, 10]⟩ : ByteArray) (piece 3) rfl
          have h6 : (piece 3).length ≤ 6 := by decide
          exact ⟨j + 1, _, rfl, by simp, by omega, by rw [hx.2]; omega, hx.1, ⟨by repeat (first | exact HB.out | apply below_alloc)⟩⟩
        case measure => simp [intOf5]; omega
    · have e0 : decide ((j : Int) < n % 9) = false := decide_eq_false (by have : n % 9 = m := HM; omega)
      have hjm2 : j = m := by omega
      have HS : Hid (S.data.toList = rep m (piece q)) := by rw [← hjm2]; exact HS
      clear hjm2
      have hP := fun l => pass_rep q m l
      have FS := fun w hV => lex_calls s w hV
      have FB := fun w hV => lex_calls (S ++ s) w hV
      have FC := fun w hV => lex_calls (s ++ (⟨#[10]⟩ : ByteArray) ++ S) w hV
      have hzS := Lib.size_eq S
      have hzs := hzs.out
      have hb1 : (S ++ s).data.toList = S.data.toList ++ s.data.toList := by simp [ByteArray.data_append]
      have hc1 : (s ++ (⟨#[10]⟩ : ByteArray) ++ S).data.toList = s.data.toList ++ 10 :: S.data.toList := by simp [ByteArray.data_append]
      rw [hb1, lexF_eq (by rw [List.length_append]; omega), show S.data.toList = _ from HS, passes_ahead _ _ hP, ← show S.data.toList = _ from HS, ← hzS] at FB
      rw [hc1, lexF_eq (by rw [List.length_append, List.length_cons]; omega), show S.data.toList = _ from HS, passes_behind _ _ hP] at FC
      rw [lexF_eq (by omega)] at FS
      clear hP hb1 hc1
      have b2 : (S.size : Int) ≤ 54 := by omega
      have V1 := Aside0.mk (hV.out.below HB.out (Nat.le_refl _))
      cases hR : lexL 0 s.data.toList with
      | error x =>
        obtain ⟨i, er⟩ := x
        have hne := lexL_err _ _ _ _ _ (Nat.le_refl _) hR
        have hjl := lexL_errpos _ _ _ _ _ (Nat.le_refl _) hR
        rw [hR] at FS FB FC
        simp only [LexPost] at FS FB FC
        have t1 : (er == 0) = false := by simpa using hne
        have t1' : (er != 0) = true := by simpa using hne
        have t2 : (er == er) = true := by simp
        have t2' : (er != er) = false := by simp
        have b1 : (i : Int) ≤ 1000 := by omega
        have FS' := Lib.hid FS
        have FB' := Lib.hid FB
        have FC' := Lib.hid FC
        clear FS FB FC hR hne hzs hzS hjl
        go_wp2_with fail
        refine (FS'.out wr V1.out).mono ?_
        rintro e w2 ⟨rfl, hb⟩
        have HB2 := Aside0.mk (below_then HB.out HB.out.size hb)
        have V2 := Aside0.mk (hV.out.below HB2.out (Nat.le_refl _))
        clear hb
        go_wp2_with fail
        refine (FB'.out w2 V2.out).mono ?_
        rintro e w3 ⟨rfl, hb⟩
        have HB3 := Aside0.mk (below_then HB2.out HB2.out.size hb)
        have V3 := Aside0.mk (hV.out.below HB3.out (Nat.le_refl _))
        clear hb
        go_wp2_with fail
        refine (FC'.out w3 V3.out).mono ?_
        rintro e w4 ⟨rfl, hb⟩
        have HB4 := Aside0.mk (below_then HB3.out HB3.out.size hb)
        clear hb
        go_wp2_with fail
        go_ret
        exact ⟨rfl, HB4.out⟩
      | ok a =>
        have hal := Go.Proofs.YtkgfnkilanpaoaaDoor.Pure.out_len hR
        have hbp := lexL_pos _ _ _ _ (Nat.le_refl _) hR
        rw [hR] at FS FB FC
        simp only [LexPost, List.length_map] at FS FB FC
        rw [← hzs] at hal hbp
        have HBP := Lib.hid hbp
        have FS' := Lib.hid FS
        have FB' := Lib.hid FB
        have FC' := Lib.hid FC
        clear FS FB FC hR hbp hzS hzs
        go_wp2_with fail
        refine (FS'.out wr V1.out).mono ?_
        rintro e w2 ⟨⟨Ba, ca, rfl, ho⟩, hb⟩
        have HB2 := Aside0.mk (below_then HB.out HB.out.size hb)
        have V2 := Aside0.mk (hV.out.below HB2.out (Nat.le_refl _))
        have HCA := Aside0.mk (C_tok ho).2
        clear hb ho
        go_wp2_with fail
        refine (FB'.out w2 V2.out).mono ?_
        rintro e w3 ⟨⟨Bb, cb, rfl, ho⟩, hb⟩
        have HB3 := Aside0.mk (below_then HB2.out HB2.out.size hb)
        have V3 := Aside0.mk (hV.out.below HB3.out (Nat.le_refl _))
        have HCA := Aside0.mk (Kd.C_below HCA.out hb)
        have HCB := Aside0.mk (C_tok (ts := a.map (shift S.size)) (c := cb) (B := Bb) (base := w2.heap.size) (w := w3) (by rw [List.length_map]; exact ho)).2
        clear hb ho
        go_wp2_with fail
        refine (FC'.out w3 V3.out).mono ?_
        rintro e w4 ⟨⟨Bc, cc, rfl, ho⟩, hb⟩
        have HB4 := Aside0.mk (below_then HB3.out HB3.out.size hb)
        have HCA := Aside0.mk (Kd.C_below HCA.out hb)
        have HCB := Aside0.mk (Kd.C_below HCB.out hb)
        have HCC := Aside0.mk (C_tok ho).2
        clear hb ho
        go_wp2_with fail
        go_loopw [95] (fun i wr => ∃ (k : Nat), i = .int .i64 k ∧ k ≤ a.length ∧ Aside0 (Below w4.heap.size w4 wr)) (fun i _ => a.length - (intOf5 i).toNat)
        case atStart => exact ⟨0, rfl, Nat.zero_le _, ⟨Below.refl _ _⟩⟩
        case round =>
          obtain ⟨k, rfl, hk, HBL⟩ := hrel
          by_cases hkl : k < a.length
          · have e1 : decide ((k : Int) < (a.length : Int)) = true := decide_eq_true (by omega)
            have e1' : decide (k < a.length) = true := decide_eq_true hkl
            have HCA := Kd.C_below HCA.out HBL.out
            have HCB := Kd.C_below HCB.out HBL.out
            have HCC := Kd.C_below HCC.out HBL.out
            rw [List.length_map] at HCB
            obtain ⟨ad, hA, x0, x1, x2, x3⟩ := at_T30 HCA (k : Int) (by omega) (by omega)
            obtain ⟨bd, hB, y0, y1, y2, y3⟩ := at_T30 HCB (k : Int) (by omega) (by omega)
            obtain ⟨cd, hC, z0, z1, z2, z3⟩ := at_T30 HCC (k : Int) (by omega) (by omega)
            obtain ⟨tk, htk⟩ : ∃ tk, a[k]? = some tk := ⟨_, List.getElem?_eq_getElem hkl⟩
            have hrd : rd_T30 (a.map toS) (k : Int) = toS tk := by
              unfold rd_T30; rw [Int.toNat_natCast, List.getD_eq_getElem?_getD, List.getElem?_map, htk]; rfl
            have hrd2 : rd_T30 ((a.map (shift S.size)).map toS) (k : Int) = toS (shift S.size tk) := by
              unfold rd_T30; rw [Int.toNat_natCast, List.getD_eq_getElem?_getD, List.getElem?_map, List.getElem?_map, htk]; rfl
            rw [hrd] at x0 x1 x2 x3 z0 z1 z2 z3
            rw [hrd2] at y0 y1 y2 y3
            rw [Int.toNat_natCast] at x0 x1 x2 x3 y0 y1 y2 y3 z0 z1 z2 z3
            simp only [toS, shift] at x0 x1 x2 x3 y0 y1 y2 y3 z0 z1 z2 z3
            have hbp := HBP.out tk (List.mem_of_getElem? htk)
            have p0 : (0 : Int) ≤ tk.pos := by omega
            have p1 : tk.pos < 1001 := by omega
            cases hA
            cases hB
            cases hC
            have q0 : (0 : Int) ≤ (k : Int) := by omega
            have q1 : (k : Int) < (a.length : Int) := by omega
            have x0a := fun o => cell?_alloc_old o x0
            have x1a := fun o => cell?_alloc_old o x1
            have x2a := fun o => cell?_alloc_old o x2
            have x3a := fun o => cell?_alloc_old o x3
            have z0a := fun o => cell?_alloc_old o z0
            have z1a := fun o => cell?_alloc_old o z1
            have z2a := fun o => cell?_alloc_old o z2
            have z3a := fun o => cell?_alloc_old o z3
            clear hrd hrd2 htk hbp HCA HCB HCC
            go_wp2_with fail
            go_quiet (fail)
            go_wp2_with fail
            go_roundw
            case rel => exact ⟨k + 1, by simp, by omega, ⟨by repeat (first | exact HBL.out | apply below_alloc | apply pw_below_drewN | apply below_drew1)⟩⟩
            case measure => simp [intOf5]; omega
          · have e1 : decide ((k : Int) < (a.length : Int)) = false := decide_eq_false (by omega)
            have e1' : decide (k < a.length) = false := decide_eq_false hkl
            go_wp2_with fail
            go_ret
            exact ⟨rfl, below_then HB4.out HB4.out.size HBL.out⟩
theorem walkLexPasses (s : ByteArray) (n kd : Int) (w : World) (hL : laidMetH Tryd.prog Rows.lexPassesRow.laid w) (_hs : s.size ≤ maxLen) (hn : (Lit.int .u8 n).wf = true) (hk : (Lit.int .u8 kd).wf = true) :
    Calls Tryd.prog 5 #[.string s, .int .u8 n, .int .u8 kd] w fun e w' => e = .returned (.bool true) ∧ Below w.heap.size w w' := by
  have hV := vars_of hL (by kernel_rfl) (by kernel_rfl)
  have e8 : IntKind.u8.min = 0 ∧ IntKind.u8.max = 255 := by decide
  simp only [Lit.wf, e8.1, e8.2, Bool.and_eq_true, decide_eq_true_eq] at hn hk
  by_cases h : 1000 < s.size
  · exact passes_big s n kd w hV h
  · exact passes_small s n kd w hV (by omega) hn.1 hn.2 hk.1 hk.2
end Go.Proofs.YtkgfnkilanpaoaaDoor.PLexs

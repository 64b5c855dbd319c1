/- The walk of LexJoins: for any two texts the law answers true; its premise is what the row lays. -/
import Derived.Test.YtkgfnkilanpaoaaDoorLexQ8
import Derived.Test.YtkgfnkilanpaoaaDoorLexVars
import Derived.Test.YtkgfnkilanpaoaaDoorRows
import Derived.Test.YtkgfnkilanpaoaaDoorLexP3
import Derived.Test.YtkgfnkilanpaoaaDoorRowsApp
namespace Go.Proofs.YtkgfnkilanpaoaaDoor.PLexs
open Go Go.RowKit Go.Proofs.YtkgfnkilanpaoaaDoor.LexP Go.Proofs.YtkgfnkilanpaoaaDoor.LexC Go.Proofs.YtkgfnkilanpaoaaDoor.Own Go.Proofs.YtkgfnkilanpaoaaDoorW.PrintWords Go.Proofs.YtkgfnkilanpaoaaDoorW.PrintLast Go.Proofs.YtkgfnkilanpaoaaDoorW.PrintMore
theorem C_tok {w : World} {base : Nat} {B : Option Addr} {c : Nat} {ts : List Tok} (h : w.ownsRow base 30 4 (.slice B ts.length c) ts.length (ts.flatMap tokC)) : ts.length ≤ c ∧ Kd.C k30 w B ts.length (ts.map toS) := by
  have hr : Reps (k30.K w) 4 (ts.map toS) (ts.flatMap tokC) := by
    refine ⟨?_, fun j p hj => ?_⟩
    · rw [List.length_map]; exact flat_len _ 4 (fun _ => rfl) ts
    · rw [List.getElem?_map] at hj
      cases ht : ts[j]? with
      | none => rw [ht] at hj; simp at hj
      | some t =>
        rw [ht] at hj
        have : toS t = p := by simpa using hj
        subst this
        have := flat_at tokC 4 (fun _ => rfl) ts j t ht
        show k30.K _ _ (((ts.flatMap tokC).drop (j * 4)).take 4)
        rw [this]
        exact k30_mk _ _
  obtain ⟨A, c2, h1, h2, h3⟩ := Lib2.own_C k30 (xs := ts.map toS) h (by simp) hr
  simp only [Value.slice.injEq] at h1
  obtain ⟨rfl, _, rfl⟩ := h1
  exact ⟨h2, by simpa using h3⟩
theorem cat_list (s t : ByteArray) : (s ++ (⟨#[10]⟩ : ByteArray) ++ t).data.toList = s.data.toList ++ 10 :: t.data.toList := by
  simp [ByteArray.data_append]
set_option maxHeartbeats 4000000 in
set_option maxRecDepth 100000 in
theorem joins_big (s t : ByteArray) (w : World) (hV : Vars w) (hbig : 500 < s.size ∨ 500 < t.size) :
    Calls Tryd.prog 6 #[.string s, .string t] w fun e w' => e = .returned (.bool true) ∧ Below w.heap.size w w' := by
  by_cases h5 : 500 < s.size
  · have c1 : decide (500 < (s.size : Int)) = true := decide_eq_true (by omega)
    have c2 : decide (500 < s.size) = true := decide_eq_true h5
    clear hbig
    go_enter Tryd.func6, Tryd.ntmps6
    go_wp2_with fail
    refine (eddywheellaw05_shown.calls 6 true _ (Go.Proofs.YtkgfnkilanpaoaaDoor.Pure.shown_ok 6 (by omega)) ⟨hV⟩).mono ?_
    rintro e w1 ⟨rfl, hb⟩
    go_wp2
    go_ret
    exact ⟨rfl, hb⟩
  · have h6 : 500 < t.size := by omega
    have c1 : decide (500 < (s.size : Int)) = false := decide_eq_false (by omega)
    have c2 : decide (500 < s.size) = false := decide_eq_false h5
    have c3 : decide (500 < (t.size : Int)) = true := decide_eq_true (by omega)
    have c4 : decide (500 < t.size) = true := decide_eq_true h6
    clear hbig
    go_enter Tryd.func6, Tryd.ntmps6
    go_wp2_with fail
    refine (eddywheellaw05_shown.calls 6 true _ (Go.Proofs.YtkgfnkilanpaoaaDoor.Pure.shown_ok 6 (by omega)) ⟨hV⟩).mono ?_
    rintro e w1 ⟨rfl, hb⟩
    go_wp2
    go_ret
    exact ⟨rfl, hb⟩
set_option maxHeartbeats 8000000 in
set_option maxRecDepth 100000 in
theorem joins_small (s t : ByteArray) (w : World) (hV : Vars w) (hs : s.size ≤ 500) (ht : t.size ≤ 500) :
    Calls Tryd.prog 6 #[.string s, .string t] w fun e w' => e = .returned (.bool true) ∧ Below w.heap.size w w' := by
  have c1 : decide (500 < (s.size : Int)) = false := decide_eq_false (by omega)
  have c2 : decide (500 < s.size) = false := decide_eq_false (by omega)
  have c3 : decide (500 < (t.size : Int)) = false := decide_eq_false (by omega)
  have c4 : decide (500 < t.size) = false := decide_eq_false (by omega)
  have hzs := Lib.size_eq s
  have hzt := Lib.size_eq t
  have FS := fun w hV => lex_calls s w hV
  have FT := fun w hV => lex_calls t w hV
  have FU := fun w hV => lex_calls (s ++ (⟨#[10]⟩ : ByteArray) ++ t) w hV
  have hj := lex_joins s.data.toList t.data.toList
  rw [cat_list, lexF_eq (by rw [List.length_append, List.length_cons]; omega), hj] at FU
  rw [lexF_eq (by omega)] at FS FT
  clear hj
  replace hV := Aside0.mk hV
  cases hS : lexL 0 s.data.toList with
  | error x =>
    obtain ⟨i, er⟩ := x
    have hne := lexL_err _ _ _ _ _ (Nat.le_refl _) hS
    rw [hS] at FS FU
    simp only [LexPost] at FS FU
    have t1 : (er == 0) = false := by simpa using hne
    have t1' : (er != 0) = true := by simpa using hne
    have t2 : (er == er) = true := by simp
    have t3 : ((i : Int) == (i : Int)) = true := by simp
    have FS' := Lib.hid FS
    have FT' := Lib.hid FT
    have FU' := Lib.hid FU
    clear FS FT FU hS hne hzs hzt
    go_enter Tryd.func6, Tryd.ntmps6
    go_wp2_with fail
    refine (eddywheellaw05_shown.calls 6 true _ (Go.Proofs.YtkgfnkilanpaoaaDoor.Pure.shown_ok 6 (by omega)) hV).mono ?_
    rintro e w1 ⟨rfl, hb⟩
    have HB := Aside0.mk hb
    have V1 := Aside0.mk (hV.out.below HB.out (Nat.le_refl _))
    clear hb
    go_wp2_with fail
    refine (FS'.out w1 V1.out).mono ?_
    rintro e w2 ⟨rfl, hb⟩
    have HB2 := Aside0.mk (below_then HB.out HB.out.size hb)
    have V2 := Aside0.mk (hV.out.below HB2.out (Nat.le_refl _))
    clear hb
    go_wp2_with fail
    refine (FT'.out w2 V2.out).mono ?_
    rintro e w3 ⟨hp, hb⟩
    have HB3 := Aside0.mk (below_then HB2.out HB2.out.size hb)
    have V3 := Aside0.mk (hV.out.below HB3.out (Nat.le_refl _))
    clear hb
    obtain ⟨vt, jt, ft, rfl⟩ : ∃ v j f, e = .returned (.tuple #[v, .int .i64 j, .int .i64 f]) := by
      revert hp
      cases lexL 0 t.data.toList with
      | error x => intro hp; exact ⟨_, _, _, hp⟩
      | ok ts => rintro ⟨B, c, hp, _⟩; exact ⟨_, _, _, hp⟩
    clear hp
    go_wp2_with fail
    refine (FU'.out w3 V3.out).mono ?_
    rintro e w4 ⟨rfl, hb⟩
    have HB4 := Aside0.mk (below_then HB3.out HB3.out.size hb)
    clear hb
    go_wp2_with fail
    go_ret
    exact ⟨rfl, HB4.out⟩
  | ok a =>
    have hal := Go.Proofs.YtkgfnkilanpaoaaDoor.Pure.out_len hS
    cases hT : lexL 0 t.data.toList with
    | error x =>
      obtain ⟨j, er⟩ := x
      have hne := lexL_err _ _ _ _ _ (Nat.le_refl _) hT
      have hjl := lexL_errpos _ _ _ _ _ (Nat.le_refl _) hT
      rw [hT] at FT FU
      rw [hS] at FS FU
      simp only [LexPost] at FT FU
      rw [← hzs] at FU
      rw [← hzt] at hjl
      have t1 : (er == 0) = false := by simpa using hne
      have t1' : (er != 0) = true := by simpa using hne
      have t2 : (er == er) = true := by simp
      have t3 : ((j : Int) + ((s.size : Int) + 1) == (j : Int) + (s.size : Int) + 1) = true := by simp; omega
      have b1 : (j : Int) < 500 := by omega
      have b2 : (s.size : Int) ≤ 500 := by omega
      have FS' := Lib.hid FS
      have FT' := Lib.hid FT
      have FU' := Lib.hid FU
      clear FS FT FU hS hT hne hzs hzt hjl hal
      go_enter Tryd.func6, Tryd.ntmps6
      go_wp2_with fail
      refine (eddywheellaw05_shown.calls 6 true _ (Go.Proofs.YtkgfnkilanpaoaaDoor.Pure.shown_ok 6 (by omega)) hV).mono ?_
      rintro e w1 ⟨rfl, hb⟩
      have HB := Aside0.mk hb
      have V1 := Aside0.mk (hV.out.below HB.out (Nat.le_refl _))
      clear hb
      go_wp2_with fail
      refine (FS'.out w1 V1.out).mono ?_
      rintro e w2 ⟨⟨B, c, rfl, ho⟩, hb⟩
      have HB2 := Aside0.mk (below_then HB.out HB.out.size hb)
      have V2 := Aside0.mk (hV.out.below HB2.out (Nat.le_refl _))
      clear hb ho
      go_wp2_with fail
      refine (FT'.out w2 V2.out).mono ?_
      rintro e w3 ⟨rfl, hb⟩
      have HB3 := Aside0.mk (below_then HB2.out HB2.out.size hb)
      have V3 := Aside0.mk (hV.out.below HB3.out (Nat.le_refl _))
      clear hb
      go_wp2_with fail
      refine (FU'.out w3 V3.out).mono ?_
      rintro e w4 ⟨rfl, hb⟩
      have HB4 := Aside0.mk (below_then HB3.out HB3.out.size hb)
      clear hb
      go_wp2_with fail
      go_ret
      exact ⟨rfl, HB4.out⟩
    | ok b =>
      have hbl := Go.Proofs.YtkgfnkilanpaoaaDoor.Pure.out_len hT
      have hbp := lexL_pos _ _ _ _ (Nat.le_refl _) hT
      rw [hT] at FT FU
      rw [hS] at FS FU
      simp only [LexPost] at FS FT FU
      rw [← hzs] at FU hal
      rw [← hzt] at hbl hbp
      have HBP := Lib.hid hbp
      have hN : a.length ≤ 501 ∧ b.length ≤ 501 := by omega
      obtain ⟨na, nb⟩ := hN
      have b2 : (s.size : Int) ≤ 500 := by omega
      have FS' := Lib.hid FS
      have FT' := Lib.hid FT
      have FU' := Lib.hid FU
      clear FS FT FU hS hT hzs hzt hbp hal hbl
      go_enter Tryd.func6, Tryd.ntmps6
      go_wp2_with fail
      refine (eddywheellaw05_shown.calls 6 true _ (Go.Proofs.YtkgfnkilanpaoaaDoor.Pure.shown_ok 6 (by omega)) hV).mono ?_
      rintro e w1 ⟨rfl, hb⟩
      have HB := Aside0.mk hb
      have V1 := Aside0.mk (hV.out.below HB.out (Nat.le_refl _))
      clear hb
      go_wp2_with fail
      refine (FS'.out w1 V1.out).mono ?_
      rintro e w2 ⟨⟨Ba, ca, rfl, ho⟩, hb⟩
      have HOA := Aside0.mk ho
      have HB2 := Aside0.mk (below_then HB.out HB.out.size hb)
      have V2 := Aside0.mk (hV.out.below HB2.out (Nat.le_refl _))
      clear hb ho
      go_wp2_with fail
      refine (FT'.out w2 V2.out).mono ?_
      rintro e w3 ⟨⟨Bb, cb, rfl, ho⟩, hb⟩
      have HB3 := Aside0.mk (below_then HB2.out HB2.out.size hb)
      have V3 := Aside0.mk (hV.out.below HB3.out (Nat.le_refl _))
      have HOA := Aside0.mk (own_keep HOA.out (Heap.Chg.of_below (F := []) hb) (by simp))
      have HCB := Aside0.mk (C_tok ho).2
      clear hb ho
      go_wp2_with fail
      refine (FU'.out w3 V3.out).mono ?_
      rintro e w4 ⟨⟨Bu, cu, rfl, ho⟩, hb⟩
      have HB4 := Aside0.mk (below_then HB3.out HB3.out.size hb)
      have HOA := Aside0.mk (own_keep HOA.out (Heap.Chg.of_below (F := []) hb) (by simp))
      have HCB := Aside0.mk (Kd.C_below HCB.out hb)
      have HCU := Aside0.mk (C_tok ho)
      clear hb ho
      go_wp2_with (at_builtin; refine app rfl (.tmp 79) (.tmp 80) 23 rfl w4.heap.size 30 _ 4 40 Tryd.underlying23 infoTok rfl (by decide) (by decide) _ 0 [] rfl (World.ownsRow_nil _ _ _ _) _ a.length (a.flatMap tokC) rfl (Src.own HOA.out) (by intro u hu; obtain ⟨x, _, hx⟩ := List.mem_flatMap.1 hu; simp [tokC] at hx; rcases hx with rfl | rfl | rfl | rfl <;> rfl) (Nat.le_refl _) (by omega) ?_; intro Bw cw w5 ho5 hc5 _; have HB5 := Aside0.mk hc5.below; clear hc5; have HOW := Aside0.mk ho5; clear ho5)
      go_loopw [15, 84] (fun v i wr => ∃ (k : Nat) (B : Option Addr) (c : Nat), v = .slice B (a.length + k) c ∧ i = .int .i64 k ∧ k ≤ b.length ∧ Aside0 (wr.ownsRow w4.heap.size 30 4 (.slice B (a.length + k) c) (a.length + k) ((a ++ (b.take k).map (shift (s.size + 1))).flatMap tokC)) ∧ Aside0 (Below w4.heap.size w4 wr)) (fun _ i _ => b.length - (intOf5 i).toNat)
      case atStart => exact ⟨0, Bw, cw, rfl, rfl, Nat.zero_le _, ⟨by simpa using HOW.out⟩, HB5⟩
      case round =>
        obtain ⟨k, B, c, rfl, rfl, hk, HOW, HB⟩ := hrel
        have HCB := Aside0.mk (Kd.C_below HCB.out HB.out)
        have HCU := Aside0.mk (And.intro HCU.out.1 (Kd.C_below HCU.out.2 HB.out))
        by_cases hkl : k < b.length
        · have e0 : decide ((k : Int) < (b.length : Int)) = true := decide_eq_true (by omega)
          have e0' : decide (k < b.length) = true := decide_eq_true hkl
          obtain ⟨ad, hA, z0, z1, z2, z3⟩ := at_T30 HCB.out (k : Int) (by omega) (by omega)
          obtain ⟨tk, htk⟩ : ∃ tk, b[k]? = some tk := ⟨_, List.getElem?_eq_getElem hkl⟩
          have hrd : rd_T30 (b.map toS) (k : Int) = toS tk := by
            unfold rd_T30; rw [Int.toNat_natCast, List.getD_eq_getElem?_getD, List.getElem?_map, htk]; rfl
          rw [hrd] at z0 z1 z2 z3
          rw [Int.toNat_natCast] at z0 z1 z2 z3
          simp only [toS] at z0 z1 z2 z3
          have hbp := HBP.out tk (List.mem_of_getElem? htk)
          have p0 : (0 : Int) ≤ tk.pos := by omega
          have p1 : tk.pos < 500 := by omega
          have htk' := Lib.hid htk
          have hA' := Lib.hid hA
          cases hA
          have q0 : (0 : Int) ≤ (k : Int) := by omega
          have q1 : (k : Int) < (b.length : Int) := by omega
          clear hrd htk hbp hA'
          have hlen : a.length + k < 1002 := by omega
          go_wp2_with (at_builtin; refine app rfl (.tmp 95) (.tmp 97) 23 rfl w4.heap.size 30 _ 4 40 Tryd.underlying23 infoTok rfl (by decide) (by decide) _ (a.length + k) _ rfl (own_keep HOW.out (((Heap.Chg.refl [] wr).alloc _).alloc _) (by simp)) _ 1 _ rfl (src_new [.int .u8 tk.kind, .int .i64 (tk.pos + ((s.size : Int) + 1)), .int .i64 tk.n, .string ⟨tk.s.toArray⟩] 30 4 1 1 _ rfl (by simp)) (by intro u hu; simp at hu; rcases hu with rfl | rfl | rfl | rfl <;> rfl) (by have := HB.out.size; simp; omega) (by omega) ?_; intro B2 c2 w3 ho3 hc3 _; have hb3 := Aside0.mk (Heap.Chg.below ((((Heap.Chg.of_below (F := []) HB.out).alloc _).alloc _).trans hc3 (fun b hb => .inr (HOW.out.lt b (mem_ob.1 hb)).1))); clear HB HOW hc3; have HB := hb3; clear hb3; have HOW := Aside0.mk ho3; clear ho3)
          go_roundw
          case rel =>
            refine ⟨k + 1, B2, c2, by simp [Nat.add_assoc], by simp, by omega, ?_, HB⟩
            have e : (a ++ (b.take (k + 1)).map (shift (s.size + 1))).flatMap tokC = (a ++ (b.take k).map (shift (s.size + 1))).flatMap tokC ++ [.int .u8 tk.kind, .int .i64 (tk.pos + ((s.size : Int) + 1)), .int .i64 tk.n, .string ⟨tk.s.toArray⟩] := by
              rw [List.take_add_one, show b[k]? = some tk from htk', Option.toList_some, List.map_append, ← List.append_assoc, List.flatMap_append]
              simp [tokC, shift]
            rw [e, ← Nat.add_assoc]
            exact HOW
          case measure => simp [intOf5]; omega
        · have e0 : decide ((k : Int) < (b.length : Int)) = false := decide_eq_false (by omega)
          have e0' : decide (k < b.length) = false := decide_eq_false hkl
          have hkb : k = b.length := by omega
          have HKB := Lib.hid hkb
          have hlw : ((a ++ b.map (shift (s.size + 1))).map toS).length = a.length + b.length := by simp
          have HCW := C_tok (ts := a ++ b.map (shift (s.size + 1))) (c := c) (B := B) (w := wr) (base := w4.heap.size) (by
            have h := HOW.out
            rw [show k = b.length from HKB, List.take_length] at h
            rw [show (a ++ b.map (shift (s.size + 1))).length = a.length + b.length from by simp]
            exact h)
          have hsame := Go.Proofs.YtkgfnkilanpaoaaDoor.Pure.same_ok ((a ++ b.map (shift (s.size + 1))).map toS) 1100 (by rw [hlw]; omega) (by rw [hlw]; omega)
          have SC := eddywheelref05_Same.calls 1100 Bu cu _ B c _ true wr (by rw [List.length_map]; exact HCU.out.2) (by rw [List.length_map]; exact HCU.out.1) (by rw [List.length_map]; exact HCW.2) (by rw [List.length_map]; exact HCW.1) hsame
          rw [hlw] at SC
          have SC' := Lib.hid SC
          clear SC hsame HCW hlw hkb
          go_wp2_with fail
          rw [show k = b.length from HKB]
          refine SC'.out.mono ?_
          rintro e w9 ⟨rfl, hd⟩
          have HB9 := Aside0.mk (below_then HB4.out HB4.out.size (below_then HB.out HB.out.size hd.below))
          clear hd
          go_wp2_with fail
          go_ret
          exact ⟨rfl, HB9.out⟩
theorem walkLexJoins (s t : ByteArray) (w : World) (hL : laidMetH Tryd.prog Rows.lexJoinsRow.laid w) (_hs : s.size ≤ maxLen) (_ht : t.size ≤ maxLen) :
    Calls Tryd.prog 6 #[.string s, .string t] w fun e w' => e = .returned (.bool true) ∧ Below w.heap.size w w' := by
  have hV := vars_of hL (by kernel_rfl) (by kernel_rfl)
  by_cases h : s.size ≤ 500 ∧ t.size ≤ 500
  · exact joins_small s t w hV h.1 h.2
  · exact joins_big s t w hV (by omega)
end Go.Proofs.YtkgfnkilanpaoaaDoor.PLexs

import Derived.Test.YtomhkemdafiphaaGreatDoorShowP
import Derived.Test.YtomhkemdafiphaaGreatDoorReadK
import Derived.Maps.OwnOps
import Derived.Maps.Views
import Derived.Maps.OwnSet
import Derived.Laws.BitsLemmas
namespace Go.Proofs.YtomhkemdafiphaaGreatDoor.ReadM
open Go Go.RowKit Go.Maps Go.Proofs.YtomhkemdafiphaaGreatDoor.Heap Go.Proofs.YtomhkemdafiphaaGreatDoor.ReadP Go.Proofs.YtomhkemdafiphaaGreatDoor.ReadM
open Go.Proofs.YtomhkemdafiphaaGreatDoorW.PrintWords (Aside0 below_then below_alloc)
theorem lawI : Keyed Tryz.prog 3 := int_keyed Tryz.underlying3
theorem zeroI (w : World) : (zeroValue 3).run Tryz.prog w = .ok (.int .i64 0) w := by kernel_rfl
/-- a map that tells which places have been seen -/
def SeenD (D : DataW Unit) (seen : List Int) : Prop := ∀ p : Int, D.atKey (.int .i64 p) (.lit (.int .i64 0)) = .lit (.int .i64 (if p ∈ seen then 1 else 0))
theorem seen_look {w : World} {b n : Nat} {D : DataW Unit} {seen : List Int} (h : w.ownsMap Tryz.prog 3 (plainElem Tryz.prog 3) b n D) (hs : SeenD D seen) (p : Int) (hp : (Lit.int .i64 p).wf = true) :
    (Instr.lookup 111 (.map (some b)) (.int .i64 p) false).run Tryz.prog w = .ok (.int .i64 (if p ∈ seen then 1 else 0)) w := by
  obtain ⟨c, hrun, hat, _⟩ := h.lookup_int lawI Tryz.underlying111 Tryz.underlying3 (zeroI w) (keyOf_int_mk Tryz.underlying3 hp)
  rw [hrun]
  have h2 := (hs p).symm.trans hat
  have h3 := DataW.lit.inj h2
  rw [(Lit.int.inj h3).2]
theorem seen_put {D : DataW Unit} {seen : List Int} (hm : IsMap D) (hs : SeenD D seen) (p : Int) : SeenD (D.put (.int .i64 p) (.lit (.int .i64 1))) (seen ++ [p]) := by
  intro q
  by_cases h : q = p
  · subst h
    rw [atKey_put_same hm (by exact trivial)]
    simp
  · rw [atKey_put_other (by simpa using h), hs q]
    simp [h]
theorem chg_map {w w' : World} {b : Nat} (h : w.grownBy w' (some b)) : Chg [b] w w' :=
  ⟨h.os, h.tape, h.output, h.size, fun k hk hn => h.block k hk (fun e => hn (by simp at e; simp [e]))⟩
theorem ba_tl (s : ByteArray) : s.toList = s.data.toList := by
  obtain ⟨⟨l⟩⟩ := s
  exact ByteArray.toList_mk l
set_option maxHeartbeats 4000000 in
set_option maxRecDepth 100000 in
theorem may_calls (rs : List (Nd × Value)) (v : Value) (w : World) (h : RN w v rs) (hl : rs.length ≤ 10000) (hl2 : ∀ p ∈ rs, p.1.l.length ≤ 10000) (hwf : ∀ p ∈ rs, -9223372036854775808 ≤ p.1.n ∧ p.1.n < 9223372036854775808) :
    Calls Tryz.prog 28 #[v] w fun e w' => e = .returned (.bool (mayF 0 [] (rs.map (·.1)))) ∧ Below w.heap.size w w' := by
  obtain ⟨A, c, rfl, hc, hcell, hin⟩ := h
  have HCELL := Lib.hid hcell
  have HIN := Lib.hid hin
  have HL2 := Lib.hid hl2
  have HWF := Lib.hid hwf
  generalize hn : rs.length = n at *
  have HN := Lib.hid hn
  have bn : (n : Int) ≤ 10000 := by omega
  generalize hans : mayF 0 [] (rs.map (·.1)) = ans
  have HANS := Lib.hid hans
  have hmm := @run_makeMap Tryz.prog
  have hmade := World.ownsMap_made (H := Unit) w Tryz.prog 3 (plainElem Tryz.prog 3)
  have HMADE := Lib.hid hmade
  clear hcell hin hl2 hwf hn hans hmade
  go_enter Tryz.func28, Tryz.ntmps28
  go_wp2_with fail
  have kM : Chg [] w (w.alloc (.map #[] 0)) := (Chg.refl [] w).alloc _
  have hmbw : w.heap.size ≤ w.heap.size := Nat.le_refl _
  have HKM := Lib.hid kM
  generalize w.alloc (.map #[] 0) = W0 at *
  generalize hmb : w.heap.size = mb at HMADE hmbw ⊢
  have HMB := Lib.hid hmb
  clear hmb kM hmm
  go_loopw [13] (fun i wx => ∃ (k nn : Nat) (seen : List Int) (D : DataW Unit), i = .int .i64 k ∧ k ≤ n ∧ Hid (wx.ownsMap Tryz.prog 3 (plainElem Tryz.prog 3) mb nn D) ∧ Hid (nn ≤ k * 10000) ∧ Hid (SeenD D seen) ∧ Hid (ans = mayF k seen ((rs.map (·.1)).drop k)) ∧ Hid (Chg [mb] W0 wx)) (fun i _ => n - (intOf6 i).toNat)
  case atStart => exact ⟨0, 0, [], _, rfl, Nat.zero_le _, HMADE, Lib.hid (Nat.le_refl _), Lib.hid (fun p => rfl), Lib.hid HANS.out.symm, Lib.hid (Chg.refl _ _)⟩
  case round =>
    obtain ⟨k, nn, seen, D, rfl, hk, HOWN, HNN, HSD, HMAY, HC⟩ := hrel
    by_cases hkn : k < n
    · have e0 : decide ((k : Int) < (n : Int)) = true := decide_eq_true (by omega)
      have e0' : decide (k < n) = true := decide_eq_true hkn
      have kwr : Chg [] w wr := (HKM.out).trans HC.out (fun b hb => .inr (by have := HMB.out; simp at hb; omega))
      obtain ⟨b, o, rfl, hcell⟩ := HCELL.out (by omega)
      obtain ⟨p, hp⟩ : ∃ p, rs[k]? = some p := ⟨_, List.getElem?_eq_getElem (by rw [HN.out]; exact hkn)⟩
      obtain ⟨a0, a1, a2, a3, a4⟩ := hcell k p hp
      have hi := HIN.out p (List.mem_of_getElem? hp)
      have hpl := HL2.out p (List.mem_of_getElem? hp)
      have hnw := HWF.out p (List.mem_of_getElem? hp)
      have hLk : (rs.map (·.1))[k]? = some p.1 := by rw [List.getElem?_map, hp]; rfl
      have hmay := HMAY.out
      rw [may_at hLk] at hmay
      obtain ⟨⟨kd, pos, nv, sb, ll⟩, Lv⟩ := p
      obtain ⟨LA, Lc, hLv, hlc, hli⟩ := hi
      simp only at hLv
      subst hLv
      simp only at a0 a1 a2 a3 a4 hpl hnw hmay hlc hli
      have a0 := kwr.cell a0 (by simp)
      have a1 := kwr.cell a1 (by simp)
      have a2 := kwr.cell a2 (by simp)
      have a3 := kwr.cell a3 (by simp)
      have a4 := kwr.cell a4 (by simp)
      have p0 : (0 : Int) ≤ (k : Int) := by omega
      have p1 : (k : Int) < (n : Int) := by omega
      have HLI := Lib.hid hli
      have HMAY2 := Lib.hid hmay
      have KWR := Lib.hid kwr
      clear hcell hp hLk hmay hli kwr
      go_upto_region 5 with fail
      have hS : ((⟨sb.toArray⟩ : ByteArray).toList == ([] : List UInt8)) = (sb == []) := by rw [ba_tl]
      have hS' : ((⟨sb.toArray⟩ : ByteArray).toList != ([] : List UInt8)) = !(sb == []) := by rw [ba_tl]; rfl
      have hS2 : sb.isEmpty = (sb == []) := by cases sb <;> rfl
      generalize hsb : (sb == ([] : List UInt8)) = S at hS hS' hS2 ⊢
      have HSB := Lib.hid hsb
      clear hsb
      go_cut [6, 7] (fun t6 t7 wx => t6 = .bool (kd == 4) ∧ t7 = .bool (S && nv == 0) ∧ Hid (∃ m, wx = (wr.alloc (.cells #[.int .u8 kd, .int .i64 pos, .int .i64 nv, .string ⟨sb.toArray⟩, .slice LA ll.length Lc] 34)).drewN m))
      case first =>
        cases S
        all_goals
          go_quiet (fail)
          go_wp2
          go_meet
          exact ⟨rfl, rfl, Lib.hid ⟨_, rfl⟩⟩
      case rest =>
        obtain ⟨rfl, rfl, hw⟩ := hcut
        have kwc : Chg [] wr wc := by obtain ⟨m, hm⟩ := hw.out; rw [hm]; exact ((Chg.refl [] wr).alloc _).draw m
        have hbx : wc.heap[wr.heap.size]? = some (.cells #[.int .u8 kd, .int .i64 pos, .int .i64 nv, .string ⟨sb.toArray⟩, .slice LA ll.length Lc] 34 (0, 0)) := by obtain ⟨m, hm⟩ := hw.out; rw [hm]; exact ((Chg.refl [] _).draw m).at (blk_new rfl) (by simp)
        have KWC := Lib.hid (KWR.out.sub kwc)
        have KRC := Lib.hid kwc
        have x0 := blk_cell hbx 0
        have x1 := blk_cell hbx 1
        have x2 := blk_cell hbx 2
        have x3 := blk_cell hbx 3
        have x4 := blk_cell hbx 4
        simp at x0 x1 x2 x3 x4
        generalize hT : (S && nv == 0) = T
        have HTT := Lib.hid hT
        clear hw kwc hbx a0 a1 a2 a3 a4 hT
        go_upto_block 2 with fail
        go_cut [] (fun wx => rightB ⟨kd, pos, nv, sb, ll⟩ = true ∧ wx = wc)
        case first =>
          by_cases hp : pos < 0
          · have cP : decide (pos < 0) = true := decide_eq_true hp
            go_wp2
            go_ret
            exact ⟨by rw [show ans = _ from HMAY2]; simp [rightB, show (sb == ([] : List UInt8)) = _ from HSB, *], KWC.out.below⟩
          have cP : decide (pos < 0) = false := decide_eq_false hp
          have hkc : kd = 1 ∨ kd = 2 ∨ kd = 3 ∨ kd = 4 ∨ (kd ≠ 1 ∧ kd ≠ 2 ∧ kd ≠ 3 ∧ kd ≠ 4) := by omega
          have hnn : (nv = 0 ∨ nv = 1) ∨ (nv ≠ 0 ∧ nv ≠ 1) := by omega
          rcases hkc with rfl | rfl | rfl | rfl | ⟨k1, k2, k3, k4⟩
          · by_cases hl : ll = []
            · subst hl
              cases S
              · skip
                go_wp2
                go_ret
                exact ⟨by rw [show ans = _ from HMAY2]; simp [rightB, show (sb == ([] : List UInt8)) = _ from HSB, *], KWC.out.below⟩
              · skip
                go_wp2
                go_meet
                exact ⟨by simp [rightB, show (sb == ([] : List UInt8)) = _ from HSB, *], rfl⟩
            · have cL : decide ((0 : Int) < (ll.length : Int)) = true := decide_eq_true (by have := List.length_pos_iff.2 hl; omega)
              have cL' : decide (0 < ll.length) = true := decide_eq_true (List.length_pos_iff.2 hl)
              go_wp2
              go_ret
              exact ⟨by rw [show ans = _ from HMAY2]; simp [rightB, show (sb == ([] : List UInt8)) = _ from HSB, *], KWC.out.below⟩
          · by_cases hl : ll = []
            · subst hl
              cases S
              · skip
                go_wp2
                go_ret
                exact ⟨by rw [show ans = _ from HMAY2]; simp [rightB, show (sb == ([] : List UInt8)) = _ from HSB, *], KWC.out.below⟩
              · rcases hnn with (rfl | rfl) | ⟨n0, n1⟩
                · skip
                  go_wp2
                  go_meet
                  exact ⟨by simp [rightB, show (sb == ([] : List UInt8)) = _ from HSB, *], rfl⟩
                · skip
                  go_wp2
                  go_meet
                  exact ⟨by simp [rightB, show (sb == ([] : List UInt8)) = _ from HSB, *], rfl⟩
                · have cN : decide (IntKind.u64.wrap nv ≤ 1) = false := by rw [IntKind.wrap_u64]; exact decide_eq_false (by omega)
                  have cN' : decide (nv % 18446744073709551616 ≤ 1) = false := decide_eq_false (by omega)
                  go_wp2
                  go_ret
                  exact ⟨by rw [show ans = _ from HMAY2]; simp [rightB, show (sb == ([] : List UInt8)) = _ from HSB, *], KWC.out.below⟩
            · have cL : decide ((0 : Int) < (ll.length : Int)) = true := decide_eq_true (by have := List.length_pos_iff.2 hl; omega)
              have cL' : decide (0 < ll.length) = true := decide_eq_true (List.length_pos_iff.2 hl)
              go_wp2
              go_ret
              exact ⟨by rw [show ans = _ from HMAY2]; simp [rightB, show (sb == ([] : List UInt8)) = _ from HSB, *], KWC.out.below⟩
          · by_cases hl : ll = []
            · subst hl
              by_cases hn0 : nv = 0
              · subst hn0
                go_wp2
                go_meet
                exact ⟨by simp [rightB, show (sb == ([] : List UInt8)) = _ from HSB, *], rfl⟩
              · have cN : (nv == 0) = false := by simpa using hn0
                go_wp2
                go_ret
                exact ⟨by rw [show ans = _ from HMAY2]; simp [rightB, show (sb == ([] : List UInt8)) = _ from HSB, *], KWC.out.below⟩
            · have cL : decide ((0 : Int) < (ll.length : Int)) = true := decide_eq_true (by have := List.length_pos_iff.2 hl; omega)
              have cL' : decide (0 < ll.length) = true := decide_eq_true (List.length_pos_iff.2 hl)
              go_wp2
              go_ret
              exact ⟨by rw [show ans = _ from HMAY2]; simp [rightB, show (sb == ([] : List UInt8)) = _ from HSB, *], KWC.out.below⟩
          · cases S
            · obtain rfl : T = false := by rw [← HTT.out]; rfl
              go_wp2
              go_ret
              exact ⟨by rw [show ans = _ from HMAY2]; simp [rightB, show (sb == ([] : List UInt8)) = _ from HSB, *], KWC.out.below⟩
            · by_cases hn0 : nv = 0
              · subst hn0
                obtain rfl : T = true := by rw [← HTT.out]; rfl
                go_wp2
                go_meet
                exact ⟨by simp [rightB, show (sb == ([] : List UInt8)) = _ from HSB, *], rfl⟩
              · have cN : (nv == 0) = false := by simpa using hn0
                obtain rfl : T = false := by rw [← HTT.out, cN]; rfl
                go_wp2
                go_ret
                exact ⟨by rw [show ans = _ from HMAY2]; simp [rightB, show (sb == ([] : List UInt8)) = _ from HSB, *], KWC.out.below⟩
          · have c1 : (kd == 1) = false := by simpa using k1
            have c2 : (kd == 2) = false := by simpa using k2
            have c3 : (kd == 3) = false := by simpa using k3
            have c4 : (kd == 4) = false := by simpa using k4
            · by_cases hl : ll = []
              · subst hl
                go_wp2
                go_ret
                exact ⟨by rw [show ans = _ from HMAY2]; simp [rightB, show (sb == ([] : List UInt8)) = _ from HSB, *], KWC.out.below⟩
              · have cL : decide ((0 : Int) < (ll.length : Int)) = true := decide_eq_true (by have := List.length_pos_iff.2 hl; omega)
                have cL' : decide (0 < ll.length) = true := decide_eq_true (List.length_pos_iff.2 hl)
                go_wp2
                go_ret
                exact ⟨by rw [show ans = _ from HMAY2]; simp [rightB, show (sb == ([] : List UInt8)) = _ from HSB, *], KWC.out.below⟩
        case rest =>
          obtain ⟨hright, rfl⟩ := hcut
          have hm3 : ans = match seenF k seen ll with | none => false | some s => mayF (k + 1) s ((rs.map (·.1)).drop (k + 1)) := by
            rw [show ans = _ from HMAY2, hright, Bool.true_and]
            cases seenF k seen ll <;> rfl
          have HM3 := Lib.hid hm3
          have hown : wc.ownsMap Tryz.prog 3 (plainElem Tryz.prog 3) mb nn D := by
            obtain ⟨es, clock, hb, F, hs, hd⟩ := HOWN.out
            exact ⟨es, clock, KRC.out.at hb (by simp), F, hs, hd⟩
          have HO2 := Lib.hid hown
          have hcc : Chg [mb] W0 wc := HC.out.same (KRC.out.mono (fun _ h => by cases h))
          have HCC := Lib.hid hcc
          have bll : (ll.length : Int) ≤ 10000 := by omega
          clear hm3 hown hcc x0 x1 x2 x3 hright HMAY2
          go_wp2_with fail
          go_loopw [79] (fun i wx => ∃ (j mm : Nat) (sn : List Int) (E : DataW Unit), i = .int .i64 j ∧ j ≤ ll.length ∧ Hid (wx.ownsMap Tryz.prog 3 (plainElem Tryz.prog 3) mb mm E) ∧ Hid (mm ≤ k * 10000 + j) ∧ Hid (SeenD E sn) ∧ Hid (seenF k seen ll = seenF k sn (ll.drop j)) ∧ Hid (Chg [mb] W0 wx)) (fun i _ => ll.length - (intOf6 i).toNat)
          case atStart => exact ⟨0, nn, seen, D, rfl, Nat.zero_le _, HO2, Lib.hid (by have := HNN.out; omega), HSD, Lib.hid rfl, HCC⟩
          case round =>
            obtain ⟨j, mm, sn, E, rfl, hj, HOE, HMM, HSE, HSF, HCX⟩ := hrel
            have kwx : Chg [] w wr := (HKM.out).trans HCX.out (fun b hb => .inr (by have := HMB.out; simp at hb; omega))
            have KWX := Lib.hid kwx
            by_cases hjl : j < ll.length
            · have g0 : decide ((j : Int) < (ll.length : Int)) = true := decide_eq_true (by omega)
              have g0' : decide (j < ll.length) = true := decide_eq_true hjl
              obtain ⟨bl, ol, rfl, hcl⟩ := HLI.out (by omega)
              obtain ⟨pj, hpj⟩ : ∃ pj, ll[j]? = some pj := ⟨_, List.getElem?_eq_getElem hjl⟩
              have hq := kwx.cell (hcl j pj hpj) (by simp)
              have hsf := HSF.out
              rw [seen_at hpj] at hsf
              have r0 : (0 : Int) ≤ (j : Int) := by omega
              have r1 : (j : Int) < (ll.length : Int) := by omega
              have HSF2 := Lib.hid hsf
              clear hcl hpj hsf kwx
              by_cases hn0 : pj < 0
              · have d0 : decide (pj < 0) = true := decide_eq_true hn0
                have hfin : ans = false := by
                  rw [show ans = _ from HM3, show seenF k seen ll = _ from HSF2, if_pos (.inl hn0)]
                have HF := Lib.hid hfin
                clear hfin hn0
                go_wp2_with fail
                go_ret
                exact ⟨by rw [show ans = false from HF]; rfl, KWX.out.below⟩
              have d0 : decide (pj < 0) = false := decide_eq_false hn0
              by_cases hn1 : (k : Int) ≤ pj
              · have d1 : decide ((k : Int) ≤ pj) = true := decide_eq_true hn1
                have hfin : ans = false := by
                  rw [show ans = _ from HM3, show seenF k seen ll = _ from HSF2, if_pos (.inr (.inl hn1))]
                have HF := Lib.hid hfin
                clear hfin hn1 hn0
                go_wp2_with fail
                go_ret
                exact ⟨by rw [show ans = false from HF]; rfl, KWX.out.below⟩
              have d1 : decide ((k : Int) ≤ pj) = false := decide_eq_false hn1
              have hwf : (Lit.int .i64 pj).wf = true := by simp [Lit.wf, IntKind.min, IntKind.max, IntKind.signed, IntKind.bits]; omega
              have hkey : keyOf Tryz.prog 3 (.int .i64 pj) = some (.int .i64 pj) := keyOf_int_mk Tryz.underlying3 hwf
              have hrun := seen_look HOE.out HSE.out pj hwf
              by_cases hin : pj ∈ sn
              · rw [if_pos hin] at hrun
                have hfin : ans = false := by
                  rw [show ans = _ from HM3, show seenF k seen ll = _ from HSF2, if_pos (.inr (.inr hin))]
                have HF := Lib.hid hfin
                clear hfin hin hn1 hn0
                go_wp2_with fail
                go_ret
                exact ⟨by rw [show ans = false from HF]; rfl, KWX.out.below⟩
              · rw [if_neg hin] at hrun
                have hsf : seenF k seen ll = seenF k (sn ++ [pj]) (ll.drop (j + 1)) := by
                  rw [show seenF k seen ll = _ from HSF2, if_neg (by rintro (h | h | h) <;> contradiction)]
                have HSF3 := Lib.hid hsf
                have HSE3 := Lib.hid (seen_put HOE.out.isMap HSE.out pj)
                have bmm : mm < maxLen := by have := HMM.out; unfold maxLen; omega
                have BMM := Lib.hid bmm
                clear hsf hin hn1 hn0 bmm
                go_wp2_with (at_mapUpdate; refine wpList_mapUpdate_own _ rfl _ _ _ 111 rfl 3 3 lawI Tryz.underlying111 _ mb mm _ rfl HOE.out BMM.out _ _ _ rfl rfl hkey _ [] (plainElem_int Tryz.underlying3 (a := 1) (by decide)) ?_; intro w9 hown9 hgrow9; have HO9 := Lib.hid hown9; have HG9 := Lib.hid (chg_map hgrow9); clear hown9 hgrow9)
                go_roundw
                case rel => exact ⟨j + 1, mm + 1, sn ++ [pj], _, by simp, by omega, HO9, Lib.hid (by have := HMM.out; omega), HSE3, HSF3, Lib.hid (HCX.out.same HG9.out)⟩
                case measure => simp [intOf6]; omega
            · have g0 : decide ((j : Int) < (ll.length : Int)) = false := decide_eq_false (by omega)
              have g0' : decide (j < ll.length) = false := decide_eq_false hjl
              have hmy : ans = mayF (k + 1) sn ((rs.map (·.1)).drop (k + 1)) := by
                rw [show ans = _ from HM3, show seenF k seen ll = _ from HSF, List.drop_of_length_le (by omega)]
                rfl
              have HMY := Lib.hid hmy
              clear hmy kwx
              go_wp2_with fail
              go_roundw
              case rel => exact ⟨k + 1, mm, sn, E, by simp, by omega, HOE, Lib.hid (by have := HMM.out; omega), HSE, HMY, HCX⟩
              case measure => simp [intOf6]; omega
    · have e0 : decide ((k : Int) < (n : Int)) = false := decide_eq_false (by omega)
      have e0' : decide (k < n) = false := decide_eq_false hkn
      have hfin : ans = true := by
        have := HMAY.out
        rw [List.drop_of_length_le (by simp; have := HN.out; omega)] at this
        exact this
      have HF := Lib.hid hfin
      have kwr : Hid (Chg [] w wr) := Lib.hid ((HKM.out).trans HC.out (fun b hb => .inr (by have := HMB.out; simp at hb; omega)))
      clear hfin
      go_wp2_with fail
      go_ret
      rw [show ans = true from HF]
      exact ⟨rfl, kwr.out.below⟩
end Go.Proofs.YtomhkemdafiphaaGreatDoor.ReadM

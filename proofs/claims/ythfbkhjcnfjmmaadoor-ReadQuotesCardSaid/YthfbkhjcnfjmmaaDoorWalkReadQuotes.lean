/- The walk of ReadQuotes: for any numbers the law answers true; its premises are what the row gives. -/
import Derived.Test.YthfbkhjcnfjmmaaDoorReadQ7
import Derived.Test.YthfbkhjcnfjmmaaDoorReadW
import Derived.Test.YthfbkhjcnfjmmaaDoorLexVars
import Derived.Test.YthfbkhjcnfjmmaaDoorRows
import Derived.Laws.BitsLemmas
namespace Go.Proofs.YthfbkhjcnfjmmaaDoor.ReadM
open Go Go.RowKit Go.Proofs.YthfbkhjcnfjmmaaDoor.Heap Go.Proofs.YthfbkhjcnfjmmaaDoor.Own Go.Proofs.YthfbkhjcnfjmmaaDoor.ReadP Go.Proofs.YthfbkhjcnfjmmaaDoor.LexP
open Go.Proofs.YthfbkhjcnfjmmaaDoorW.PrintWords (Aside0 below_then below_alloc)
attribute [local go_sem] max2_int min2_int max_two min_two
theorem base_cell (r : Nat) (hr : r < 4) : (#[Value.string ⟨#[55]⟩, .string ⟨#[120]⟩, .string ⟨#[40, 41]⟩, .string ⟨#[40, 97, 32, 98, 41]⟩] : Array Value)[r]? = some (.string ⟨(baseT r).toArray⟩) := by
  match r, hr with
  | 0, _ => rfl
  | 1, _ => rfl
  | 2, _ => rfl
  | 3, _ => rfl
set_option maxHeartbeats 2000000 in
set_option maxRecDepth 100000 in
theorem quotes_walk (A : Option Addr) (len cap : Nat) (zs : List Int) (w : World) (hV : Go.Proofs.YthfbkhjcnfjmmaaDoor.LexC.Vars w) (hz : IsRow .u8 w A len cap zs) (_hy : len * 1 ≤ 140737488351232) :
    Calls Tryd.prog 6 #[.slice A len cap] w fun e w' => e = .returned (.bool true) ∧ Below w.heap.size w w' := by
  obtain ⟨m, hmin, m1, m2, m3⟩ := min_nat len 20 20 rfl
  have hlc : len ≤ cap := by rcases hz with ⟨_, rfl, rfl, _⟩ | ⟨_, _, h, _⟩ <;> omega
  have hlz : (zs.take m).length = m := by
    rcases hz with ⟨_, rfl, rfl, rfl⟩ | ⟨_, _, h, _, h2, _⟩
    · simp; omega
    · simp; omega
  have hsrc := hz.src m m1 cap
  have hwf : ∀ (j : Nat) (x : Int), (zs.take m)[j]? = some x → 0 ≤ x ∧ x < 256 := by
    intro j x hj
    rcases hz with ⟨_, _, _, rfl⟩ | ⟨_, _, _, _, _, _, h2⟩
    · simp at hj
    · have := h2 x (List.mem_of_mem_take (List.mem_of_getElem? hj))
      have h1 : IntKind.u8.min = 0 := by decide
      have h3 : IntKind.u8.max = 255 := by decide
      simp only [Lit.wf, h1, h3, Bool.and_eq_true, decide_eq_true_eq] at this
      omega
  generalize zs.take m = xs at *
  have HWF := Lib.hid hwf
  have HLZ := Lib.hid hlz
  have HSRC := Lib.hid hsrc
  have blen : (0 : Int) ≤ (len : Int) := by omega
  replace hV := Aside0.mk hV
  clear hz hwf hlz hsrc m3
  go_enter Tryd.func6, Tryd.ntmps6
  go_wp2_with fail
  refine (shown_calls _ hV.out).mono ?_
  rintro e w1 ⟨rfl, hb⟩
  have HB := Aside0.mk hb
  clear hb
  have bm : (m : Int) ≤ 20 := by omega
  have ML : m ≤ len := m1
  go_wp2_with fail
  go_loopw [4, 5, 28] (fun s t i wr => ∃ (k : Nat) (S T : ByteArray), s = .string S ∧ t = .string T ∧ i = .int .i64 k ∧ k ≤ m ∧ Hid (S.data.toList = sT ((xs.take k).map pcs)) ∧ Hid (T.data.toList = tT ((xs.take k).map pcs)) ∧ S.size ≤ 9 * k ∧ T.size ≤ 30 * k ∧ Aside0 (Below w.heap.size w wr)) (fun _ _ i _ => m - (intOf6 i).toNat)
  case atStart => exact ⟨0, ⟨#[]⟩, ⟨#[]⟩, rfl, rfl, rfl, Nat.zero_le _, rfl, rfl, Nat.le_refl _, Nat.le_refl _, HB⟩
  case round =>
    obtain ⟨k, S, T, rfl, rfl, rfl, hk, HS, HT, bS, bT, HB⟩ := hrel
    by_cases hlt : k < m
    · obtain ⟨bb, o, rfl, hbl, hcell⟩ := (HSRC.out.grow (Heap.Chg.of_below HB.out)).pl (by omega) (by decide)
      have hlz := HLZ.out
      obtain ⟨x, hx⟩ : ∃ x, xs[k]? = some x := ⟨_, List.getElem?_eq_getElem (by omega)⟩
      have hq : wr.cell? ⟨bb, o + k, none⟩ = some (.int .u8 x) := hcell _ _ (by simp [Heap.nums, hx])
      obtain ⟨x0, x1⟩ := HWF.out k x hx
      have e0 : decide ((k : Int) < (m : Int)) = true := decide_eq_true (by omega)
      have e0' : decide (k < m) = true := decide_eq_true hlt
      have bj0 : (0 : Int) ≤ (k : Int) := by omega
      have bj1 : (k : Int) < (m : Int) := by omega
      obtain ⟨r, hr⟩ : ∃ r : Nat, r = (x % 4).toNat := ⟨_, rfl⟩
      obtain ⟨c, hc⟩ : ∃ c : Nat, c = (x / 4 % 4).toNat := ⟨_, rfl⟩
      have hr4 : r < 4 := by omega
      have hc4 : c < 4 := by omega
      have a1 : bits .and .u8 x 3 = (r : Int) := by rw [show (3 : Int) = 2 ^ 2 - 1 from rfl, bits_mask .u8 8 (by decide) wraps_u8 2 (by decide) x x0 (by omega)]; omega
      have a2 : bits .and .u8 (x / 4) 3 = (c : Int) := by rw [show (3 : Int) = 2 ^ 2 - 1 from rfl, bits_mask .u8 8 (by decide) wraps_u8 2 (by decide) (x / 4) (by omega) (by omega)]; omega
      have q2 : (wr.alloc (.cells #[.string ⟨#[55]⟩, .string ⟨#[120]⟩, .string ⟨#[40, 41]⟩, .string ⟨#[40, 97, 32, 98, 41]⟩] 9)).cell? ⟨wr.heap.size, r, none⟩ = some (.string ⟨(baseT r).toArray⟩) := (blk_cell (blk_new rfl) r).trans (base_cell r hr4)
      have HX := Lib.hid hx
      have HR := Lib.hid hr
      have HC := Lib.hid hc
      clear hr hc hx hcell hbl
      have ba := base_len r
      have bsz : (⟨(baseT r).toArray⟩ : ByteArray).size = (baseT r).length := by rw [Lib.size_eq]
      go_wp2_with fail
      go_loopw [8, 9, 41] (fun d q i w2 => ∃ (j : Nat) (D Q : ByteArray), d = .string D ∧ q = .string Q ∧ i = .int .u8 j ∧ j ≤ c ∧ Hid (D.data.toList = qA (baseT r) j) ∧ Hid (Q.data.toList = qB (baseT r) j) ∧ D.size = (baseT r).length + j ∧ Q.size = (baseT r).length + 8 * j ∧ Aside0 (Below w.heap.size w w2)) (fun _ _ i _ => c - (intOf6 i).toNat)
      case atStart => exact ⟨0, _, _, rfl, rfl, rfl, Nat.zero_le _, rfl, rfl, bsz, bsz, ⟨by repeat (first | exact HB.out | apply below_alloc | apply Go.Proofs.YthfbkhjcnfjmmaaDoorW.PrintWords.pw_below_drewN)⟩⟩
      case round =>
        obtain ⟨j, D, Q, rfl, rfl, rfl, hj, HD, HQ, bD, bQ, HB2⟩ := hrel
        by_cases hjc : j < c
        · have e2 : decide ((j : Int) < (c : Int)) = true := decide_eq_true (by omega)
          have e2' : decide (j < c) = true := decide_eq_true hjc
          go_wp2_with fail
          go_roundw
          case rel =>
            refine ⟨j + 1, _, _, rfl, rfl, by simp, by omega, ?_, ?_, ?_, ?_, HB2⟩
            · have := HD.out
              refine Lib.hid ?_
              simp [this, qA]
            · have := HQ.out
              refine Lib.hid ?_
              simp [this, qB]
            · rw [ByteArray.size_append, bD, show (⟨#[39]⟩ : ByteArray).size = 1 from rfl]
              omega
            · rw [ByteArray.size_append, ByteArray.size_append, bQ, show (⟨#[40, 113, 117, 111, 116, 101, 32]⟩ : ByteArray).size = 7 from rfl, show (⟨#[41]⟩ : ByteArray).size = 1 from rfl]
              omega
          case measure => simp [intOf6]; omega
        · have e2 : decide ((j : Int) < (c : Int)) = false := decide_eq_false (by omega)
          have e2' : decide (j < c) = false := decide_eq_false hjc
          obtain rfl : j = c := by omega
          clear e2 e2' hjc
          go_wp2_with fail
          go_roundw
          case rel =>
            have p1 : (pcs x).1 = qA (baseT r) j := by unfold pcs; rw [← HR.out, ← HC.out]
            have p2 : (pcs x).2 = qB (baseT r) j := by unfold pcs; rw [← HR.out, ← HC.out]
            refine ⟨k + 1, _, _, rfl, rfl, by simp, by omega, ?_, ?_, ?_, ?_, HB2⟩
            · show (_ : List UInt8) = _
              rw [sT_snoc xs k x HX.out, p1, ← HS.out, ← HD.out]
              simp
            · show (_ : List UInt8) = _
              rw [tT_snoc xs k x HX.out, p2, ← HT.out, ← HQ.out]
              simp
            · rw [ByteArray.size_append, ByteArray.size_append, bD, show (⟨#[32]⟩ : ByteArray).size = 1 from rfl]
              omega
            · rw [ByteArray.size_append, ByteArray.size_append, bQ, show (⟨#[32]⟩ : ByteArray).size = 1 from rfl]
              omega
          case measure => simp [intOf6]; omega
    · have e0 : decide ((k : Int) < (m : Int)) = false := decide_eq_false (by omega)
      have e0' : decide (k < m) = false := decide_eq_false hlt
      obtain rfl : k = m := by omega
      clear e0 e0' hlt
      have hlz := HLZ.out
      have hSx : S.data.toList = sT (xs.map pcs) := by have := HS.out; rwa [List.take_of_length_le (by omega)] at this
      have hTx : T.data.toList = tT (xs.map pcs) := by have := HT.out; rwa [List.take_of_length_le (by omega)] at this
      obtain ⟨R1, R2, tops, r1, r2, rn⟩ := pieces_law xs (by omega)
      have D1 := fun w hV => read_calls S w hV
      have D2 := fun w hV => read_calls T w hV
      rw [hSx, r1] at D1
      rw [hTx, r2] at D2
      simp only [ReadPost] at D1 D2
      have FS1 := Lib.hid D1
      have FS2 := Lib.hid D2
      have LO1 := (read_lo r1).1
      have LT1 := (read_lo r1).2.1
      have LR1 := (read_ok r1).2
      have LO := Lib.hid LO1
      have RNN := Lib.hid rn
      have V1 := Aside0.mk (hV.out.below HB.out (Nat.le_refl _))
      have htl : tops.length ≤ 1000000 := by omega
      clear D1 D2 hSx hTx r1 r2 rn LO1 HS HT bS bT hlz HSRC HWF HLZ blen hmin ML bm hlc LT1 m1 m2 hk
      go_wp2_with fail
      refine (FS1.out _ V1.out).mono ?_
      rintro e w4 ⟨⟨base1, hbl1, v0, v1, rs1, rfl, hrs1, hN, hT, hI, _⟩, hb⟩
      have HB4 := Aside0.mk (below_then HB.out HB.out.size hb)
      have V4 := Aside0.mk (hV.out.below HB4.out (Nat.le_refl _))
      have N1 := Lib.hid (Nodes.rn hN hI)
      have T1 := Lib.hid (Ints.ri hT)
      have HRS1 := Lib.hid hrs1
      clear hb hbl1 hrs1 hN hT hI
      go_wp2_with fail
      refine (FS2.out _ V4.out).mono ?_
      rintro e w5 ⟨⟨base2, hbl2, v2, v3, rs2, rfl, hrs2, hN, hT, hI, _⟩, hb⟩
      have HB5 := Aside0.mk (below_then HB4.out HB4.out.size hb)
      have K45 : Chg [] w4 w5 := Heap.Chg.of_below hb
      have M1 := Lib.hid (N1.out.chg K45)
      have U1 := Lib.hid (T1.out.chg K45)
      have M2 := Lib.hid (Nodes.rn hN hI)
      have U2 := Lib.hid (Ints.ri hT)
      have hlr : rs2.length = rs1.length := by
        have h1 := congrArg List.length RNN.out
        have h2 := congrArg List.length HRS1.out
        have h3 := congrArg List.length hrs2
        simp only [List.length_map] at h1 h2 h3
        omega
      have hl1 : rs1.length ≤ 8002 := by
        have h2 := congrArg List.length HRS1.out
        simp only [List.length_map] at h2
        omega
      have HRS2 := Lib.hid hrs2
      obtain ⟨A1, c1, hv0, g1, q1, i1⟩ := M1.out
      obtain ⟨A2, c2, hv2, g2, q2, i2⟩ := M2.out
      subst hv0
      subst hv2
      have Q1 := Lib.hid q1
      have Q2 := Lib.hid q2
      have I1 := Lib.hid i1
      have I2 := Lib.hid i2
      rw [hlr] at g2
      have HLR := Lib.hid hlr
      clear hb hbl2 hrs2 hN hT hI K45 N1 T1 q1 q2 i1 i2 LR1 HB HB4 V1 V4
      rw [HLR.out]
      have f0 : ((rs1.length : Int) != (rs1.length : Int)) = false := by simp
      go_wp2_with fail
      refine (ints_same tops v1 v3 _ U1.out U2.out htl).mono ?_
      rintro e w6 ⟨rfl, n6, hw6⟩
      have K56 := Lib.hid (show Chg [] w5 w6 by rw [hw6]; exact (Chg.refl [] w5).draw n6)
      clear hw6
      generalize hn : rs1.length = n at *
      have HN := Lib.hid hn
      have bn : (n : Int) ≤ 8002 := by omega
      clear hn hV U1 U2 htl
      go_wp2_with fail
      go_loopw [93] (fun i wr => ∃ j : Nat, i = .int .i64 j ∧ j ≤ n ∧ Hid (Chg [] w5 wr)) (fun i _ => n - (intOf6 i).toNat)
      case atStart => exact ⟨0, rfl, Nat.zero_le _, K56⟩
      case round =>
        obtain ⟨j, rfl, hj, KW⟩ := hrel
        by_cases hjn : j < n
        · have e0 : decide ((j : Int) < (n : Int)) = true := decide_eq_true (by omega)
          have e0' : decide (j < n) = true := decide_eq_true hjn
          have hl2 : rs2.length = n := HLR
          obtain ⟨b1, o1, rfl, y1⟩ := Q1.out (by omega)
          obtain ⟨b2, o2, rfl, y2⟩ := Q2.out (by omega)
          obtain ⟨p, hp⟩ : ∃ p, rs1[j]? = some p := ⟨_, List.getElem?_eq_getElem (by rw [show rs1.length = n from HN]; exact hjn)⟩
          obtain ⟨p', hp'⟩ : ∃ p, rs2[j]? = some p := ⟨_, List.getElem?_eq_getElem (by rw [hl2]; exact hjn)⟩
          have hpp : noP p.1 = noP p'.1 := by
            have e1 : (rs1.map (·.1))[j]? = some p.1 := by rw [List.getElem?_map, hp]; rfl
            have e2 : (rs2.map (·.1))[j]? = some p'.1 := by rw [List.getElem?_map, hp']; rfl
            rw [show rs1.map (·.1) = R1 from HRS1] at e1
            rw [show rs2.map (·.1) = R2 from HRS2] at e2
            have h1 : (R1.map noP)[j]? = some (noP p.1) := by rw [List.getElem?_map, e1]; rfl
            have h2 : (R2.map noP)[j]? = some (noP p'.1) := by rw [List.getElem?_map, e2]; rfl
            rw [show R1.map noP = R2.map noP from RNN, h2] at h1
            injection h1 with h1
            exact h1.symm
          have hpl : p.1.l.length ≤ 1000000 := by
            have h1 : p.1 ∈ R1 := by rw [← show rs1.map (·.1) = R1 from HRS1]; exact List.mem_map_of_mem (List.mem_of_getElem? hp)
            have h2 := (LO.out p.1 h1).1
            have h3 : R1.length = n := by rw [← show rs1.map (·.1) = R1 from HRS1, List.length_map]; exact HN
            omega
          obtain ⟨a0, a1, a2, a3, a4⟩ := y1 j p hp
          obtain ⟨d0, d1, d2, d3, d4⟩ := y2 j p' hp'
          have hi1 := I1.out p (List.mem_of_getElem? hp)
          have hi2 := I2.out p' (List.mem_of_getElem? hp')
          obtain ⟨⟨kd, pos, nn, sb, ll⟩, Lv⟩ := p
          obtain ⟨⟨kd', pos', nn', sb', ll'⟩, Lv'⟩ := p'
          simp only [noP, Nd.mk.injEq] at hpp
          obtain ⟨rfl, _, rfl, rfl, rfl⟩ := hpp
          simp only at a0 a1 a2 a3 a4 d0 d1 d2 d3 d4 hi1 hi2 hpl
          obtain ⟨LA, Lc, hLv, _⟩ := id hi1
          obtain ⟨LA', Lc', hLv', _⟩ := id hi2
          subst hLv hLv'
          have J1 := Lib.hid hi1
          have J2 := Lib.hid hi2
          have a0 := KW.out.cell a0 (by simp)
          have a1 := KW.out.cell a1 (by simp)
          have a2 := KW.out.cell a2 (by simp)
          have a3 := KW.out.cell a3 (by simp)
          have a4 := KW.out.cell a4 (by simp)
          have d0 := KW.out.cell d0 (by simp)
          have d1 := KW.out.cell d1 (by simp)
          have d2 := KW.out.cell d2 (by simp)
          have d3 := KW.out.cell d3 (by simp)
          have d4 := KW.out.cell d4 (by simp)
          have p0 : (0 : Int) ≤ (j : Int) := by omega
          have p1 : (j : Int) < (n : Int) := by omega
          clear y1 y2 hp hp' hi1 hi2 hl2
          go_upto_region 21 with fail
          go_region_held3 (fun w' => (w'.cell? ⟨b1, o1 + j * 5, none⟩ = some (.int .u8 kd) ∧ w'.cell? ⟨b1, o1 + j * 5 + 1, none⟩ = some (.int .i64 pos) ∧ w'.cell? ⟨b1, o1 + j * 5 + 2, none⟩ = some (.int .i64 nn) ∧ w'.cell? ⟨b1, o1 + j * 5 + 3, none⟩ = some (.string ⟨sb.toArray⟩) ∧ w'.cell? ⟨b1, o1 + j * 5 + 4, none⟩ = some (.slice LA ll.length Lc)) ∧ (w'.cell? ⟨b2, o2 + j * 5, none⟩ = some (.int .u8 kd) ∧ w'.cell? ⟨b2, o2 + j * 5 + 1, none⟩ = some (.int .i64 pos') ∧ w'.cell? ⟨b2, o2 + j * 5 + 2, none⟩ = some (.int .i64 nn) ∧ w'.cell? ⟨b2, o2 + j * 5 + 3, none⟩ = some (.string ⟨sb.toArray⟩) ∧ w'.cell? ⟨b2, o2 + j * 5 + 4, none⟩ = some (.slice LA' ll.length Lc')))
            (go_keep) (fail)
          all_goals
            clear a0 a1 a2 a3 a4 d0 d1 d2 d3 d4
            go_wp2_with fail
            refine (nodes_same [(⟨kd, 0, nn, sb, ll⟩, .slice LA ll.length Lc)] [(⟨kd, 0, nn, sb, ll⟩, .slice LA' ll.length Lc')] _ _ _ (RN_blk (t := 32) (k := wr.heap.size + 1 + 1) ((Chg.refl [] _).drew.at (Heap.blk_old (by simp) (Heap.blk_new (by simp))) (by simp)) 1 (Nat.le_refl _) ?_) (RN_blk (t := 32) (k := wr.heap.size + 1 + 1 + 1) ((Chg.refl [] _).drew.at (Heap.blk_new (by simp)) (by simp)) 1 (Nat.le_refl _) ?_) rfl (by simp) ?_).mono ?_
            · intro p hp
              have : p = _ := List.mem_singleton.1 hp
              subst this
              exact J1.out.chg (KW.out.sub (((((Chg.refl [] wr).alloc _).alloc _).alloc _).alloc _).drew)
            · intro p hp
              have : p = _ := List.mem_singleton.1 hp
              subst this
              exact J2.out.chg (KW.out.sub (((((Chg.refl [] wr).alloc _).alloc _).alloc _).alloc _).drew)
            · intro p hp
              have : p = _ := List.mem_singleton.1 hp
              subst this
              exact hpl
            rintro e w7 ⟨rfl, n7, hw7⟩
            have K7 := Lib.hid (show Chg [] w5 w7 by rw [hw7]; exact (KW.out.sub (((((Chg.refl [] wr).alloc _).alloc _).alloc _).alloc _).drew).draw n7)
            clear hw7
            go_wp2_with fail
            go_roundw
            case rel => exact ⟨j + 1, by simp, by omega, K7⟩
            case measure => simp [intOf6]; omega
        · have e0 : decide ((j : Int) < (n : Int)) = false := decide_eq_false (by omega)
          have e0' : decide (j < n) = false := decide_eq_false hjn
          go_wp2_with fail
          go_ret
          exact ⟨rfl, below_then HB5.out HB5.out.size KW.out.below⟩

theorem walkReadQuotes (A : Option Addr) (len cap : Nat) (zs : List Int) (w : World) (hL : laidMetH Tryd.prog Rows.readQuotesRow.laid w) (hz : IsRow .u8 w A len cap zs) (hy : len * 1 ≤ 140737488351232) :
    Calls Tryd.prog 6 #[.slice A len cap] w fun e w' => e = .returned (.bool true) ∧ Below w.heap.size w w' :=
  quotes_walk A len cap zs w (Go.Proofs.YthfbkhjcnfjmmaaDoor.LexC.vars_of hL (by kernel_rfl) (by kernel_rfl)) hz hy
end Go.Proofs.YthfbkhjcnfjmmaaDoor.ReadM

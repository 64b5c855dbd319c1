/- The walk of ReadWhole: for any text the law answers true; its premises are what the row gives. -/
import Derived.Test.YthfbkhjcnfjmmaaDoorWholeP
import Derived.Test.YthfbkhjcnfjmmaaDoorMayC
import Derived.Test.YthfbkhjcnfjmmaaDoorLexVars
import Derived.Test.YthfbkhjcnfjmmaaDoorRows
import Derived.Laws.MakeOwn
namespace Go.Proofs.YthfbkhjcnfjmmaaDoor.ReadM
open Go Go.RowKit Go.Proofs.YthfbkhjcnfjmmaaDoor.Heap Go.Proofs.YthfbkhjcnfjmmaaDoor.Own Go.Proofs.YthfbkhjcnfjmmaaDoor.ReadP Go.Proofs.YthfbkhjcnfjmmaaDoor.LexP
open Go.Proofs.YthfbkhjcnfjmmaaDoorW.PrintWords (Aside0 below_then below_alloc)
/-- how often each place stands in a list -/
def cntL (n : Nat) (l : List Int) : List Int := (List.range n).map fun q : Nat => ((l.count (q : Int) : Nat) : Int)
theorem cntL_len (n : Nat) (l : List Int) : (cntL n l).length = n := by simp [cntL]
theorem cntL_at (n : Nat) (l : List Int) (p : Nat) (hp : p < n) : (cntL n l)[p]? = some ((l.count (p : Int) : Nat) : Int) := by simp [cntL, hp]
theorem cntL_nil (n : Nat) : List.replicate n (0 : Int) = cntL n [] := by
  apply List.ext_getElem
  · simp [cntL]
  · intro i h1 h2; simp [cntL]
theorem cntL_set (n : Nat) (l : List Int) (p : Nat) : (cntL n l).set p (((l.count (p : Int) : Nat) : Int) + 1) = cntL n (l ++ [(p : Int)]) := by
  apply List.ext_getElem?
  intro i
  rw [List.getElem?_set]
  by_cases hi : p = i
  · subst hi
    rw [if_pos rfl]
    by_cases hn : p < n
    · rw [if_pos (by rw [cntL_len]; exact hn), cntL_at n _ p hn, List.count_append, List.count_singleton]
      simp
    · rw [if_neg (by rw [cntL_len]; exact hn)]
      simp [cntL, hn]
  · rw [if_neg hi]
    by_cases hn : i < n
    · rw [cntL_at n _ i hn, cntL_at n _ i hn, List.count_append, List.count_singleton, if_neg (by simp; omega)]
      simp
    · simp [cntL, hn]
theorem made_one (z : Value) (n : Nat) (hz : z.cells = #[z]) : madeCells z.cells (n * 1) = Array.replicate n z := by
  rw [hz]; unfold madeCells
  apply Array.ext
  · simp
  · intro i h1 h2
    simp [Nat.mod_one]
theorem makeI (n : Nat) (hn : n ≤ 65536) (W : World) : (Instr.makeSlice 24 (.int .i64 (n : Int)) (.int .i64 (n : Int))).run Tryd.prog W =
    .ok (.slice (some ⟨W.heap.size, 0, none⟩) n n) (W.alloc (.cells (nums .i64 (List.replicate n 0)).toArray 3)) := by
  obtain ⟨i, hi, hz, hs, hb⟩ := info_parts infoInt
  have := run_make W 24 3 i _ Tryd.underlying24 hi hz .i64 .i64 n n (by omega) (Int.le_refl _) (by rw [hb]; omega) (by omega)
  rw [this, hs, Int.toNat_natCast, made_one _ _ rfl]
  simp [nums]
theorem blk_count {w : World} {ib n : Nat} {l : List Int} (h : w.heap[ib]? = some (.cells (nums .i64 (cntL n l)).toArray 3 (0, 0))) (p : Nat) : (w.setCell ⟨ib, p, none⟩ (.int .i64 (((l.count (p : Int) : Nat) : Int) + 1))).heap[ib]? = some (.cells (nums .i64 (cntL n (l ++ [(p : Int)]))).toArray 3 (0, 0)) := by
  rw [blk_set h, ← cntL_set]
  congr 2
  simp [nums, List.map_set]
theorem count_row {row : List Nd} {tops : List Int} (h : Wh row tops []) (k : Nat) (q : Int) : ((row.take k).flatMap (·.l)).count q ≤ 1 := by
  have h1 := h.cnt q
  have h2 : (row.flatMap (·.l)).count q = ((row.take k).flatMap (·.l)).count q + ((row.drop k).flatMap (·.l)).count q := by
    conv => lhs; rw [← List.take_append_drop k row]
    rw [List.flatMap_append, List.count_append]
  unfold tot one_ at h1
  split at h1 <;> omega
theorem top_in {row : List Nd} {tops : List Int} (h : Wh row tops []) {p : Int} (hp : p ∈ tops) : 0 ≤ p ∧ p < row.length := by
  have h1 := h.cnt p
  have h2 := List.count_pos_iff.2 hp
  unfold tot one_ at h1
  split at h1
  · assumption
  · omega
theorem count_all {row : List Nd} {tops : List Int} (h : Wh row tops []) (q : Nat) (hq : q < row.length) : (row.flatMap (·.l) ++ tops).count (q : Int) = 1 := by
  have h1 := h.cnt (q : Int)
  unfold tot one_ at h1
  rw [if_pos (by omega)] at h1
  rw [List.count_append]
  simpa using h1
/-- which one was the last of so many -/
def lastT (tops : List Int) (j : Nat) : Int := ((tops.take j).getLast?).getD (-1)
theorem lastT_succ {tops : List Int} {j : Nat} {p : Int} (h : tops[j]? = some p) : lastT tops (j + 1) = p := by
  unfold lastT
  rw [List.take_add_one, h]
  simp
theorem lastT_lt {row : List Nd} {tops : List Int} (h : Wh row tops []) {j : Nat} {p : Int} (hp : tops[j]? = some p) : lastT tops j < p := by
  unfold lastT
  have h0 := top_in h (List.mem_of_getElem? hp)
  cases hl : (tops.take j).getLast? with
  | none => simp; omega
  | some a =>
    have ha := List.mem_of_getLast? hl
    have hs : (tops.take j ++ tops.drop j).Pairwise (· < ·) := by rw [List.take_append_drop]; exact h.srt
    exact (List.pairwise_append.1 hs).2.2 a ha p (by
      rw [List.drop_eq_getElem_cons (List.getElem?_eq_some_iff.1 hp).1, (List.getElem?_eq_some_iff.1 hp).2]
      exact List.mem_cons_self ..)
set_option maxHeartbeats 2000000 in
set_option maxRecDepth 100000 in
theorem whole_walk (s : ByteArray) (w : World) (hV : Go.Proofs.YthfbkhjcnfjmmaaDoor.LexC.Vars w) :
    Calls Tryd.prog 9 #[.string s] w fun e w' => e = .returned (.bool true) ∧ Below w.heap.size w w' := by
  have D1 := fun w hV => Go.Proofs.YthfbkhjcnfjmmaaDoor.ReadM.read_calls s w hV
  generalize hR : readF s.data.toList = R at D1
  replace hV := Aside0.mk hV
  have HR := Lib.hid hR
  clear hR
  by_cases hs : 2000 < s.size
  · have c1 : decide (2000 < (s.size : Int)) = true := decide_eq_true (by omega)
    have c1' : decide (2000 < s.size) = true := decide_eq_true hs
    clear hs D1
    go_enter Tryd.func9, Tryd.ntmps9
    go_wp2_with fail
    refine (shown_calls _ hV.out).mono ?_
    rintro e w1 ⟨rfl, hb⟩
    have HB := Aside0.mk hb
    clear hb
    go_wp2_with fail
    go_ret
    exact ⟨rfl, HB.out⟩
  have c1 : decide (2000 < (s.size : Int)) = false := decide_eq_false (by omega)
  have c1' : decide (2000 < s.size) = false := decide_eq_false hs
  have bs : (s.size : Int) ≤ 2000 := by omega
  have hsz : s.data.toList.length = s.size := (Lib.size_eq s).symm
  clear hs
  cases R with
  | error x =>
    obtain ⟨i, er⟩ := x
    have hpos := readF_pos HR.out
    rw [hsz] at hpos
    have hne := readF_err HR.out
    have t1 : (er == 0) = false := by simpa using hne
    have t1' : (er != 0) = true := by simpa using hne
    have d0 : decide ((0 : Int) ≤ i) = true := decide_eq_true hpos.1
    have d1 : decide (i ≤ (s.size : Int)) = true := decide_eq_true hpos.2
    simp only [ReadPost] at D1
    have FS1 := Lib.hid D1
    clear D1 hpos hne hsz
    go_enter Tryd.func9, Tryd.ntmps9
    go_wp2_with fail
    refine (shown_calls _ hV.out).mono ?_
    rintro e w1 ⟨rfl, hb⟩
    have HB := Aside0.mk hb
    have V1 := Aside0.mk (hV.out.below HB.out (Nat.le_refl _))
    clear hb
    go_wp2_with fail
    refine (FS1.out _ V1.out).mono ?_
    rintro e w2 ⟨⟨base1, hbl1, rfl⟩, hb⟩
    have HB2 := Aside0.mk (below_then HB.out HB.out.size hb)
    clear hb hbl1
    go_wp2_with fail
    go_ret
    exact ⟨rfl, HB2.out⟩
  | ok y =>
    obtain ⟨row, tops⟩ := y
    have WH := Lib.hid (read_wh HR.out)
    have LR1 := (read_ok HR.out).2
    have hpo : ∀ x ∈ row, 0 ≤ x.pos ∧ x.pos < s.size := fun x hx => by
      have := ((read_ok HR.out).1 x hx).2
      exact ⟨this.1, by rw [← hsz]; exact this.2.1⟩
    have HPO := Lib.hid hpo
    have HMAY := Lib.hid (may_whole (read_wh HR.out) (fun x hx => (hpo x hx).1))
    have hll : ∀ x ∈ row, x.l.length ≤ 10000 := fun x hx => by have := ((read_lo HR.out).1 x hx).1; omega
    have HLL := Lib.hid hll
    have htl : tops.length ≤ 8002 := by have := (read_lo HR.out).2.1; omega
    clear hpo hll hsz
    simp only [ReadPost] at D1
    have FS1 := Lib.hid D1
    clear D1
    go_enter Tryd.func9, Tryd.ntmps9
    go_wp2_with fail
    refine (shown_calls _ hV.out).mono ?_
    rintro e w1 ⟨rfl, hb⟩
    have HB := Aside0.mk hb
    have V1 := Aside0.mk (hV.out.below HB.out (Nat.le_refl _))
    clear hb
    go_wp2_with fail
    refine (FS1.out _ V1.out).mono ?_
    rintro e w2 ⟨⟨base1, hbl1, v0, v1, rs, rfl, hrs, hN, hT, hI, _⟩, hb⟩
    have HB2 := Aside0.mk (below_then HB.out HB.out.size hb)
    have N1 := Lib.hid (Nodes.rn hN hI)
    have T1 := Lib.hid (Ints.ri hT)
    have HRS := Lib.hid hrs
    have hlen : rs.length = row.length := by rw [← hrs, List.length_map]
    obtain ⟨A1, c1, hv0, g1, q1, i1⟩ := N1.out
    obtain ⟨A2, c2, hv1, g2, q2⟩ := T1.out
    subst hv0
    subst hv1
    have Q1 := Lib.hid q1
    have Q2 := Lib.hid q2
    have I1 := Lib.hid i1
    rw [hlen] at g1 N1
    have HLEN := Lib.hid hlen
    generalize hn : row.length = n at *
    have HNR := Lib.hid hn
    rw [HLEN.out]
    generalize hm : tops.length = m at *
    have HMT := Lib.hid hm
    have bn : (n : Int) ≤ 8002 := by omega
    have bm : (m : Int) ≤ 8002 := by omega
    have mk := makeI n (by omega)
    clear hb hbl1 hrs hN hT hI q1 q2 i1 hlen hn hm LR1 htl HB V1 hV FS1
    go_wp2_with fail
    have hbk : (w2.alloc (.cells (nums .i64 (List.replicate n 0)).toArray 3)).heap[w2.heap.size]? = some (.cells (nums .i64 (cntL n [])).toArray 3 (0, 0)) := by rw [← cntL_nil]; exact blk_new rfl
    have kW0 : Chg [] w2 (w2.alloc (.cells (nums .i64 (List.replicate n 0)).toArray 3)) := (Chg.refl [] w2).alloc _
    have HKW := Lib.hid kW0
    have HBK := Lib.hid hbk
    generalize w2.alloc (.cells (nums .i64 (List.replicate n 0)).toArray 3) = W0 at *
    generalize hib : w2.heap.size = ib at HBK ⊢
    have HIB := Lib.hid hib
    clear hbk kW0 hib mk
    go_loopw [58] (fun i wx => ∃ k : Nat, i = .int .i64 k ∧ k ≤ n ∧ Hid (wx.heap[ib]? = some (.cells (nums .i64 (cntL n ((row.take k).flatMap (·.l)))).toArray 3 (0, 0))) ∧ Hid (Chg [ib] W0 wx)) (fun i _ => n - (intOf6 i).toNat)
    case atStart => exact ⟨0, rfl, Nat.zero_le _, HBK, Lib.hid (Chg.refl _ _)⟩
    case round =>
      obtain ⟨k, rfl, hk, HBX, HC⟩ := hrel
      have kwr : Chg [] w2 wr := HKW.out.trans HC.out (fun b hb => .inr (by have := HIB.out; simp at hb; omega))
      have KWR := Lib.hid kwr
      by_cases hkn : k < n
      · have e0 : decide ((k : Int) < (n : Int)) = true := decide_eq_true (by omega)
        have e0' : decide (k < n) = true := decide_eq_true hkn
        obtain ⟨b, o, rfl, hcl⟩ := Q1.out (by rw [HLEN.out]; omega)
        obtain ⟨p, hp⟩ : ∃ p, rs[k]? = some p := ⟨_, List.getElem?_eq_getElem (by rw [HLEN.out]; exact hkn)⟩
        obtain ⟨a0, a1, a2, a3, a4⟩ := hcl k p hp
        have hi := I1.out p (List.mem_of_getElem? hp)
        have hrk : row[k]? = some p.1 := by rw [← show rs.map (·.1) = row from HRS, List.getElem?_map, hp]; rfl
        have hpos := HPO.out p.1 (List.mem_of_getElem? hrk)
        have hidx := WH.out.idx k p.1 hrk
        have hpl := HLL.out p.1 (List.mem_of_getElem? hrk)
        obtain ⟨⟨kd, pos, nv, sb, ll⟩, Lv⟩ := p
        obtain ⟨LA, Lc, hLv, hlc, hli⟩ := hi
        simp only at hLv
        subst hLv
        simp only at a0 a1 a2 a3 a4 hlc hli hpos hidx hpl hrk
        have a0 := kwr.cell a0 (by simp)
        have a1 := kwr.cell a1 (by simp)
        have a2 := kwr.cell a2 (by simp)
        have a3 := kwr.cell a3 (by simp)
        have a4 := kwr.cell a4 (by simp)
        have p0 : (0 : Int) ≤ (k : Int) := by omega
        have p1 : (k : Int) < (n : Int) := by omega
        have o0 : decide (pos < 0) = false := decide_eq_false (by omega)
        have o1 : decide ((s.size : Int) ≤ pos) = false := decide_eq_false (by omega)
        have HRK := Lib.hid hrk
        have HIX := Lib.hid hidx
        have HLI := Lib.hid hli
        have bll : (ll.length : Int) ≤ 10000 := by omega
        have htk : (row.take (k + 1)).flatMap (·.l) = (row.take k).flatMap (·.l) ++ ll := by
          rw [List.take_add_one, hrk]; simp
        have HTK := Lib.hid htk
        clear hcl hp hrk hpos hidx hli htk
        go_upto_region 11 with fail
        go_wp2_with fail
        obtain ⟨bx, hbx⟩ : ∃ bx, bx = wr.heap.size := ⟨_, rfl⟩
        have hbc : (wr.alloc (.cells #[.int .u8 kd, .int .i64 pos, .int .i64 nv, .string ⟨sb.toArray⟩, .slice LA ll.length Lc] 32)).heap[bx]? = some (.cells #[.int .u8 kd, .int .i64 pos, .int .i64 nv, .string ⟨sb.toArray⟩, .slice LA ll.length Lc] 32 (0, 0)) := blk_new hbx
        have hbi : (wr.alloc (.cells #[.int .u8 kd, .int .i64 pos, .int .i64 nv, .string ⟨sb.toArray⟩, .slice LA ll.length Lc] 32)).heap[ib]? = some (.cells (nums .i64 (cntL n ((row.take k).flatMap (·.l)))).toArray 3 (0, 0)) := ((Chg.refl [] wr).alloc _).at HBX.out (by simp)
        have hcx : Chg [ib] W0 (wr.alloc (.cells #[.int .u8 kd, .int .i64 pos, .int .i64 nv, .string ⟨sb.toArray⟩, .slice LA ll.length Lc] 32)) := HC.out.alloc _
        rw [← hbx]
        have HBC := Lib.hid hbc
        have HBI := Lib.hid hbi
        have HCX := Lib.hid hcx
        clear hbc hbi hcx hbx
        go_loopw [66] (fun i wx => ∃ j : Nat, i = .int .i64 j ∧ j ≤ ll.length ∧ Hid (wx.heap[ib]? = some (.cells (nums .i64 (cntL n ((row.take k).flatMap (·.l) ++ ll.take j))).toArray 3 (0, 0))) ∧ Hid (wx.heap[bx]? = some (.cells #[.int .u8 kd, .int .i64 pos, .int .i64 nv, .string ⟨sb.toArray⟩, .slice LA ll.length Lc] 32 (0, 0))) ∧ Hid (Chg [ib] W0 wx)) (fun i _ => ll.length - (intOf6 i).toNat)
        case atStart => exact ⟨0, rfl, Nat.zero_le _, Lib.hid (by rw [List.take_zero, List.append_nil]; exact HBI.out), HBC, HCX⟩
        case round =>
          obtain ⟨j, rfl, hj, HBJ, HBB, HCJ⟩ := hrel
          have kwj : Chg [] w2 wr := HKW.out.trans HCJ.out (fun b hb => .inr (by have := HIB.out; simp at hb; omega))
          by_cases hjl : j < ll.length
          · have g0 : decide ((j : Int) < (ll.length : Int)) = true := decide_eq_true (by omega)
            have g0' : decide (j < ll.length) = true := decide_eq_true hjl
            obtain ⟨bl, ol, rfl, hcl⟩ := HLI.out (by omega)
            obtain ⟨pj, hpj⟩ : ∃ pj, ll[j]? = some pj := ⟨_, List.getElem?_eq_getElem hjl⟩
            have hq := kwj.cell (hcl j pj hpj) (by simp)
            have hpx := HIX.out pj (List.mem_of_getElem? hpj)
            obtain ⟨q, rfl⟩ : ∃ q : Nat, pj = (q : Int) := ⟨pj.toNat, by omega⟩
            have f0 : decide ((q : Int) < 0) = false := decide_eq_false (by omega)
            have f1 : decide ((k : Int) ≤ (q : Int)) = false := decide_eq_false (by omega)
            have f1' : decide (k ≤ q) = false := decide_eq_false (by omega)
            obtain ⟨ct, hct⟩ : ∃ ct : Nat, ct = ((row.take k).flatMap (·.l) ++ ll.take j).count (q : Int) := ⟨_, rfl⟩
            have hv : wr.cell? ⟨ib, q, none⟩ = some (.int .i64 (ct : Int)) := by
              rw [blk_cell HBJ.out, nums_get, cntL_at n _ q (by omega), hct]; rfl
            have hfz := blk_frozen HBJ.out q
            have hctb : ct ≤ 100000000 := by
              have h1 := count_row WH.out k (q : Int)
              have h2 := List.count_le_length (a := (q : Int)) (l := ll.take j)
              rw [List.length_take] at h2
              rw [hct, List.count_append]
              omega
            have s0 : (0 : Int) ≤ (q : Int) := by omega
            have s1 : (q : Int) < (n : Int) := by omega
            have s2 : (ct : Int) ≤ 100000000 := by omega
            have r0 : (0 : Int) ≤ (j : Int) := by omega
            have r1 : (j : Int) < (ll.length : Int) := by omega
            have HCT := Lib.hid hct
            have HPJ := Lib.hid hpj
            have hbq : bx ≠ ib := blk_ne HBB.out HBJ.out (by decide)
            have HBQ := Lib.hid hbq
            clear hcl hpj hpx hct hctb kwj hbq
            go_wp2_with fail
            go_roundw
            case rel =>
              refine ⟨j + 1, by simp, by omega, Lib.hid ?_, Lib.hid ?_, Lib.hid ?_⟩
              · have h1 := blk_count HBJ.out q
                rw [← HCT.out] at h1
                rw [List.take_add_one, HPJ.out, ← List.append_assoc]
                exact h1
              · exact blk_far HBB.out HBQ.out _
              · exact HCJ.out.set _ _ (.inl (by simp))
            case measure => simp [intOf6]; omega
          · have g0 : decide ((j : Int) < (ll.length : Int)) = false := decide_eq_false (by omega)
            have g0' : decide (j < ll.length) = false := decide_eq_false hjl
            have y1 := blk_cell HBB.out 1
            simp at y1
            have hbe : wr.heap[ib]? = some (.cells (nums .i64 (cntL n ((row.take (k + 1)).flatMap (·.l)))).toArray 3 (0, 0)) := by
              rw [HTK.out]
              have := HBJ.out
              rwa [List.take_of_length_le (l := ll) (by omega)] at this
            have HBE := Lib.hid hbe
            clear hbe kwj
            go_wp2_with fail
            go_roundw
            case rel => exact ⟨k + 1, by simp, by omega, HBE, HCJ⟩
            case measure => simp [intOf6]; omega
      · have e0 : decide ((k : Int) < (n : Int)) = false := decide_eq_false (by omega)
        have e0' : decide (k < n) = false := decide_eq_false hkn
        have hkn2 : k = n := by omega
        have hbe : wr.heap[ib]? = some (.cells (nums .i64 (cntL n (row.flatMap (·.l)))).toArray 3 (0, 0)) := by
          have := HBX.out
          rwa [List.take_of_length_le (by have := HNR.out; omega)] at this
        have HBE := Lib.hid hbe
        clear hbe hkn2 kwr
        go_wp2_with fail
        go_loopw [13, 97] (fun v i wx => ∃ j : Nat, v = .int .i64 (lastT tops j) ∧ i = .int .i64 j ∧ j ≤ m ∧ Hid (wx.heap[ib]? = some (.cells (nums .i64 (cntL n (row.flatMap (·.l) ++ tops.take j))).toArray 3 (0, 0))) ∧ Hid (Chg [ib] W0 wx)) (fun _ i _ => m - (intOf6 i).toNat)
        case atStart => exact ⟨0, rfl, rfl, Nat.zero_le _, Lib.hid (by rw [List.take_zero, List.append_nil]; exact HBE.out), HC⟩
        case round =>
          obtain ⟨j, rfl, rfl, hj, HBJ, HCJ⟩ := hrel
          have kwj : Chg [] w2 wr := HKW.out.trans HCJ.out (fun b hb => .inr (by have := HIB.out; simp at hb; omega))
          by_cases hjl : j < m
          · have g0 : decide ((j : Int) < (m : Int)) = true := decide_eq_true (by omega)
            have g0' : decide (j < m) = true := decide_eq_true hjl
            obtain ⟨bl, ol, rfl, hcl⟩ := Q2.out (by omega)
            obtain ⟨pj, hpj⟩ : ∃ pj, tops[j]? = some pj := ⟨_, List.getElem?_eq_getElem (by rw [show tops.length = m from HMT]; exact hjl)⟩
            have hq := kwj.cell (hcl j pj hpj) (by simp)
            have hpx := top_in WH.out (List.mem_of_getElem? hpj)
            rw [show row.length = n from HNR] at hpx
            obtain ⟨q, rfl⟩ : ∃ q : Nat, pj = (q : Int) := ⟨pj.toNat, by omega⟩
            have hlt := lastT_lt WH.out hpj
            have hls := lastT_succ hpj
            have HLS := Lib.hid hls
            generalize lastT tops j = la at *
            have f0 : decide ((q : Int) ≤ la) = false := decide_eq_false (by omega)
            have f1 : decide ((n : Int) ≤ (q : Int)) = false := decide_eq_false (by omega)
            have f1' : decide (n ≤ q) = false := decide_eq_false (by omega)
            obtain ⟨ct, hct⟩ : ∃ ct : Nat, ct = (row.flatMap (·.l) ++ tops.take j).count (q : Int) := ⟨_, rfl⟩
            have hv : wr.cell? ⟨ib, q, none⟩ = some (.int .i64 (ct : Int)) := by
              rw [blk_cell HBJ.out, nums_get, cntL_at n _ q (by omega), hct]; rfl
            have hfz := blk_frozen HBJ.out q
            have hctb : ct ≤ 100000000 := by
              have h1 := count_row WH.out row.length (q : Int)
              rw [List.take_length] at h1
              have h2 := List.count_le_length (a := (q : Int)) (l := tops.take j)
              rw [List.length_take] at h2
              rw [hct, List.count_append]
              omega
            have s0 : (0 : Int) ≤ (q : Int) := by omega
            have s1 : (q : Int) < (n : Int) := by omega
            have s2 : (ct : Int) ≤ 100000000 := by omega
            have r0 : (0 : Int) ≤ (j : Int) := by omega
            have r1 : (j : Int) < (m : Int) := by omega
            have HCT := Lib.hid hct
            have HPJ := Lib.hid hpj
            clear hcl hpj hpx hct hctb kwj hlt hls
            go_wp2_with fail
            go_roundw
            case rel =>
              refine ⟨j + 1, by rw [HLS.out], by simp, by omega, Lib.hid ?_, Lib.hid ?_⟩
              · have h1 := blk_count HBJ.out q
                rw [← HCT.out] at h1
                rw [List.take_add_one, HPJ.out, ← List.append_assoc]
                exact h1
              · exact HCJ.out.set _ _ (.inl (by simp))
            case measure => simp [intOf6]; omega
          · have g0 : decide ((j : Int) < (m : Int)) = false := decide_eq_false (by omega)
            have g0' : decide (j < m) = false := decide_eq_false hjl
            have hbe : wr.heap[ib]? = some (.cells (nums .i64 (cntL n (row.flatMap (·.l) ++ tops))).toArray 3 (0, 0)) := by
              have := HBJ.out
              rwa [List.take_of_length_le (l := tops) (by have := HMT.out; omega)] at this
            have HBE2 := Lib.hid hbe
            have hla : n = 0 ∨ lastT tops j = (n : Int) - 1 := by
              unfold lastT
              rw [List.take_of_length_le (by have := HMT.out; omega)]
              rcases WH.out.lst rfl with h | h
              · left; rw [← show row.length = n from HNR, h]; rfl
              · right; rw [h, show row.length = n from HNR]; rfl
            generalize lastT tops j = la at *
            have MC := Lib.hid (fun W (k : Chg [] w2 W) => may_calls rs (.slice A1 n c1) W (N1.out.chg k) (by rw [HLEN.out]; omega) (fun p hp => HLL.out p.1 (by rw [← show rs.map (·.1) = row from HRS]; exact List.mem_map_of_mem hp)) (fun p hp => by
              have := (WH.out.fine p.1 (by rw [← show rs.map (·.1) = row from HRS]; exact List.mem_map_of_mem hp)).2.2.2
              omega))
            rw [show rs.map (·.1) = row from HRS, show mayF 0 [] row = true from HMAY] at MC
            clear hbe kwj
            go_wp2_with fail
            go_loopw [120] (fun i wx => ∃ j : Nat, i = .int .i64 j ∧ j ≤ n ∧ Hid (wx.heap[ib]? = some (.cells (nums .i64 (cntL n (row.flatMap (·.l) ++ tops))).toArray 3 (0, 0))) ∧ Hid (Chg [ib] W0 wx)) (fun i _ => n - (intOf6 i).toNat)
            case atStart => exact ⟨0, rfl, Nat.zero_le _, HBE2, HCJ⟩
            case round =>
              obtain ⟨i, rfl, hi, HBI, HCI⟩ := hrel
              have kwi : Chg [] w2 wr := HKW.out.trans HCI.out (fun b hb => .inr (by have := HIB.out; simp at hb; omega))
              have KWI := Lib.hid kwi
              clear kwi
              by_cases hin : i < n
              · have i0 : decide ((i : Int) < (n : Int)) = true := decide_eq_true (by omega)
                have i0' : decide (i < n) = true := decide_eq_true hin
                have hv : wr.cell? ⟨ib, i, none⟩ = some (.int .i64 1) := by
                  rw [blk_cell HBI.out, nums_get, cntL_at n _ i hin, count_all WH.out i (by rw [show row.length = n from HNR]; exact hin)]; rfl
                have s0 : (0 : Int) ≤ (i : Int) := by omega
                have s1 : (i : Int) < (n : Int) := by omega
                go_wp2_with fail
                go_roundw
                case rel => exact ⟨i + 1, by simp, by omega, HBI, HCI⟩
                case measure => simp [intOf6]; omega
              · have i0 : decide ((i : Int) < (n : Int)) = false := decide_eq_false (by omega)
                have i0' : decide (i < n) = false := decide_eq_false hin
                clear hi hin
                rcases hla with h0 | hla
                · have z0 : ((n : Int) == 0) = true := by simp; omega
                  have z0' : (n == 0) = true := by simp; omega
                  clear h0
                  go_wp2_with fail
                  refine (MC.out wr KWI.out).mono ?_
                  rintro e w5 ⟨rfl, hb⟩
                  have HB5 := Aside0.mk (below_then HB2.out HB2.out.size (KWI.out.sub (Heap.Chg.of_below (F := []) hb)).below)
                  clear hb
                  go_wp2_with fail
                  go_ret
                  exact ⟨rfl, HB5.out⟩
                · by_cases h0 : n = 0
                  · have z0 : ((n : Int) == 0) = true := by simp; omega
                    have z0' : (n == 0) = true := by simp; omega
                    clear h0 hla
                    go_wp2_with fail
                    refine (MC.out wr KWI.out).mono ?_
                    rintro e w5 ⟨rfl, hb⟩
                    have HB5 := Aside0.mk (below_then HB2.out HB2.out.size (KWI.out.sub (Heap.Chg.of_below (F := []) hb)).below)
                    clear hb
                    go_wp2_with fail
                    go_ret
                    exact ⟨rfl, HB5.out⟩
                  · have z0 : ((n : Int) == 0) = false := by simp; omega
                    have z0' : (n == 0) = false := by simp; omega
                    have z1 : (la == (n : Int) - 1) = true := by simp; omega
                    clear h0 hla
                    go_wp2_with fail
                    refine (MC.out wr KWI.out).mono ?_
                    rintro e w5 ⟨rfl, hb⟩
                    have HB5 := Aside0.mk (below_then HB2.out HB2.out.size (KWI.out.sub (Heap.Chg.of_below (F := []) hb)).below)
                    clear hb
                    go_wp2_with fail
                    go_ret
                    exact ⟨rfl, HB5.out⟩
theorem walkReadWhole (s : ByteArray) (w : World) (hL : laidMetH Tryd.prog Rows.readWholeRow.laid w) (_hs : s.size ≤ maxLen) :
    Calls Tryd.prog 9 #[.string s] w fun e w' => e = .returned (.bool true) ∧ Below w.heap.size w w' :=
  whole_walk s w (Go.Proofs.YthfbkhjcnfjmmaaDoor.LexC.vars_of hL (by kernel_rfl) (by kernel_rfl))
end Go.Proofs.YthfbkhjcnfjmmaaDoor.ReadM

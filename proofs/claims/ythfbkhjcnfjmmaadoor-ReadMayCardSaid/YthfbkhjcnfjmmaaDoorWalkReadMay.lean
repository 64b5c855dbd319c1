/- The walk of ReadMay: for any row the law answers true; its premises are what the row gives. -/
import Derived.Test.YthfbkhjcnfjmmaaDoorMayR
import Derived.Test.YthfbkhjcnfjmmaaDoorReadW
import Derived.Test.YthfbkhjcnfjmmaaDoorLexVars
import Derived.Test.YthfbkhjcnfjmmaaDoorRows
namespace Go.Proofs.YthfbkhjcnfjmmaaDoor.ReadM
open Go Go.RowKit Go.Proofs.YthfbkhjcnfjmmaaDoor.Heap Go.Proofs.YthfbkhjcnfjmmaaDoor.ReadP Go.Proofs.YthfbkhjcnfjmmaaDoor.PMays Go.Proofs.YthfbkhjcnfjmmaaDoor.Pure
open Go.Proofs.YthfbkhjcnfjmmaaDoor.Own (ob mem_ob own_slice own_keep Src app src_new min_nat max2_int min2_int max_two min_two)
open Go.Proofs.YthfbkhjcnfjmmaaDoorW.PrintWords (Kd Aside0 below_then below_alloc)
/-- a datum with its first twenty places -/
def cutN (x : Nd) : Nd := ⟨x.kind, x.pos, x.n, x.s, x.l.take 20⟩
theorem take_snoc {α : Type} (l : List α) (k m : Nat) (x : α) (h : l[k]? = some x) (hk : k < m) : l.take (min (k + 1) m) = l.take (min k m) ++ [x] := by
  rw [show min (k + 1) m = k + 1 from by omega, show min k m = k from by omega, List.take_add_one, h]
  rfl
theorem RN_own {w : World} {base : Nat} {v : Value} {rs : List (Nd × Value)} (h : Nodes w base v rs) (hi : ∀ p ∈ rs, RI w p.2 p.1.l) : RN w v rs := by
  obtain ⟨A, c, rfl⟩ := own_slice h
  refine ⟨A, c, rfl, own_cap h, fun hp => ?_, hi⟩
  obtain ⟨b, o, h1, _, h2⟩ := (Src.own h).pl hp (by decide)
  refine ⟨b, o, h1, fun j p hj => ?_⟩
  have f := flat5 nodeC (fun _ => rfl) rs j p hj
  exact ⟨h2 (j * 5 + 0) _ (by rw [f 0 (by omega)]; rfl), h2 (j * 5 + 1) _ (by rw [f 1 (by omega)]; rfl), h2 (j * 5 + 2) _ (by rw [f 2 (by omega)]; rfl), h2 (j * 5 + 3) _ (by rw [f 3 (by omega)]; rfl), h2 (j * 5 + 4) _ (by rw [f 4 (by omega)]; rfl)⟩
attribute [local go_sem] max2_int min2_int max_two min_two
set_option maxHeartbeats 2000000 in
set_option maxRecDepth 100000 in
theorem few_calls (rs : List (Nd × Value)) (v : Value) (w : World) (h : RN w v rs) (hnm : rs.length ≤ maxLen) :
    Calls Tryd.prog 16 #[v] w fun e w' => (∃ v' rs', e = .returned v' ∧ RN w' v' rs' ∧ rs'.map (·.1) = ((rs.map (·.1)).take 60).map cutN) ∧ Chg [] w w' := by
  obtain ⟨A, c, rfl, hc, hcell, hin⟩ := h
  have HCELL := Lib.hid hcell
  have HIN := Lib.hid hin
  generalize hn : rs.length = n at *
  have HN := Lib.hid hn
  have bn : (0 : Int) ≤ (n : Int) := by omega
  have bm : (n : Int) ≤ 9223372036854775807 := by unfold maxLen at hnm; omega
  clear hcell hin hn hnm
  go_enter Tryd.func16, Tryd.ntmps16
  go_wp2_with fail
  go_loopw [3, 8] (fun v3 i wx => ∃ (k q : Nat) (B : Option Addr) (c3 : Nat) (out : List (Nd × Value)), v3 = .slice B q c3 ∧ i = .int .i64 k ∧ k ≤ n ∧ q ≤ 60 ∧ Hid (q = out.length) ∧ Hid (wx.ownsRow w.heap.size 32 5 (.slice B q c3) q (out.flatMap nodeC)) ∧ Hid (out.map (·.1) = ((rs.map (·.1)).take (min k 60)).map cutN) ∧ Hid (∀ p ∈ out, RI w p.2 p.1.l) ∧ Hid (Chg [] w wx)) (fun _ i _ => n - (intOf6 i).toNat)
  case atStart => exact ⟨0, 0, none, 0, [], rfl, rfl, Nat.zero_le _, Nat.zero_le _, rfl, World.ownsRow_nil _ _ _ _, by simp [Hid], (fun _ h => by cases h), Chg.refl _ _⟩
  case round =>
    obtain ⟨k, q, B, c3, out, rfl, rfl, hk, hq, HQ, HO, HM, HI, HC⟩ := hrel
    by_cases hkn : k < n
    · have e0 : decide ((k : Int) < (n : Int)) = true := decide_eq_true (by omega)
      have e0' : decide (k < n) = true := decide_eq_true hkn
      obtain ⟨b, o, rfl, hcl⟩ := HCELL.out (by omega)
      obtain ⟨p, hp⟩ : ∃ p, rs[k]? = some p := ⟨_, List.getElem?_eq_getElem (by rw [HN.out]; exact hkn)⟩
      obtain ⟨a0, a1, a2, a3, a4⟩ := hcl k p hp
      have hi := HIN.out p (List.mem_of_getElem? hp)
      have hLk : (rs.map (·.1))[k]? = some p.1 := by rw [List.getElem?_map, hp]; rfl
      obtain ⟨⟨kd, pos, nv, sb, ll⟩, Lv⟩ := p
      obtain ⟨LA, Lc, hLv, hlc, hli⟩ := hi
      simp only at hLv
      subst hLv
      simp only at a0 a1 a2 a3 a4 hlc hli
      have a0 := HC.out.cell a0 (by simp)
      have a1 := HC.out.cell a1 (by simp)
      have a2 := HC.out.cell a2 (by simp)
      have a3 := HC.out.cell a3 (by simp)
      have a4 := HC.out.cell a4 (by simp)
      have p0 : (0 : Int) ≤ (k : Int) := by omega
      have p1 : (k : Int) < (n : Int) := by omega
      have p2 : (k : Int) < 9223372036854775807 := by omega
      have HLK := Lib.hid hLk
      clear hcl hp hLk
      by_cases h60 : k < 60
      · have e6 : decide ((k : Int) < 60) = true := decide_eq_true (by omega)
        have e6' : decide (k < 60) = true := decide_eq_true h60
        obtain ⟨m, hmin, m1, m2, m3⟩ := min_nat ll.length 20 20 rfl
        have bl0 : (0 : Int) ≤ (ll.length : Int) := by omega
        have hml : m ≤ Lc := by omega
        have htk : (ll.take 20).length = m := by rw [List.length_take]; omega
        have hri : RI w (.slice LA m Lc) (ll.take 20) := by
          refine ⟨LA, Lc, by rw [htk], by omega, fun hp => ?_⟩
          obtain ⟨bl, ol, hA, hc⟩ := hli (by omega)
          refine ⟨bl, ol, hA, fun j x hj => hc j x ?_⟩
          rw [List.getElem?_take] at hj
          split at hj
          · exact hj
          · cases hj
        have HRI := Lib.hid hri
        have HK6 := Lib.hid h60
        have hone : ∀ u ∈ [Value.int .u8 kd, .int .i64 pos, .int .i64 nv, .string ⟨sb.toArray⟩, .slice LA m Lc], u.oneCell' = true := by
          intro u hu
          simp at hu
          rcases hu with rfl | rfl | rfl | rfl | rfl <;> rfl
        have HONE := Lib.hid hone
        have hq2 : q < 60 := by
          have h1 := congrArg List.length HM.out
          have h2 := HQ.out
          have h3 := HN.out
          simp only [List.length_map, List.length_take] at h1
          omega
        clear hri hli hone htk h60
        go_wp2_with (at_builtin; refine app rfl (.tmp 23) (.tmp 25) 23 rfl w.heap.size 32 _ 5 64 Tryd.underlying23 infoNode rfl (by decide) (by decide) (.slice B q c3) q (out.flatMap nodeC) rfl (own_keep HO.out (((Chg.refl [] wr).alloc _).alloc _) (by simp)) _ 1 [.int .u8 kd, .int .i64 pos, .int .i64 nv, .string ⟨sb.toArray⟩, .slice LA m Lc] rfl (src_new _ _ _ _ _ _ rfl (by simp)) HONE.out (Nat.le_trans HC.out.size (((Chg.refl [] wr).alloc _).alloc _).size) (by omega) ?_; intro B5 c5 w5 ho5 hc5 hb5; have HO5 := Lib.hid ho5; have HC5 := Lib.hid hc5; clear ho5 hc5 hb5)
        go_roundw
        case rel =>
          refine ⟨k + 1, q + 1, B5, c5, out ++ [(⟨kd, pos, nv, sb, ll.take 20⟩, .slice LA m Lc)], rfl, by simp, by omega, by omega, ?_, ?_, ?_, ?_, ?_⟩
          · have := HQ.out
            refine Lib.hid ?_
            simp; omega
          · refine Lib.hid ?_
            rw [List.flatMap_append, List.flatMap_singleton]
            exact HO5.out
          · refine Lib.hid ?_
            rw [take_snoc _ k 60 _ HLK.out HK6.out, List.map_append, List.map_append, ← show out.map (·.1) = _ from HM]
            rfl
          · refine Lib.hid (fun p hp => ?_)
            rcases List.mem_append.1 hp with hp | hp
            · exact HI.out p hp
            · have : p = _ := List.mem_singleton.1 hp
              subst this
              exact HRI.out
          · exact Lib.hid ((HC.out.alloc _).alloc _ |>.trans HC5.out (fun b hb => .inr (HO.out.lt b (mem_ob.1 hb)).1))
        case measure => simp [intOf6]; omega
      · have e6 : decide ((k : Int) < 60) = false := decide_eq_false (by omega)
        have e6' : decide (k < 60) = false := decide_eq_false h60
        clear hli
        go_wp2_with fail
        go_roundw
        case rel =>
          refine ⟨k + 1, q, B, c3, out, rfl, by simp, by omega, hq, HQ, Lib.hid (own_keep HO.out ((Chg.refl [] wr).alloc _) (by simp)), Lib.hid ?_, HI, Lib.hid (HC.out.alloc _)⟩
          rw [show min (k + 1) 60 = min k 60 from by omega]
          exact HM.out
        case measure => simp [intOf6]; omega
    · have e0 : decide ((k : Int) < (n : Int)) = false := decide_eq_false (by omega)
      have e0' : decide (k < n) = false := decide_eq_false hkn
      go_wp2_with fail
      go_ret
      refine ⟨⟨_, rfl, out, ?_, ?_⟩, HC.out⟩
      · have hNn : Nodes wr w.heap.size (.slice B q c3) out := by
          unfold Nodes
          rw [← HQ.out]
          exact HO.out
        exact RN_own hNn (fun p hp => (HI.out p hp).chg HC.out)
      · rw [show out.map (·.1) = _ from HM, show (rs.map (·.1)).take (min k 60) = (rs.map (·.1)).take 60 from by
          by_cases h6 : k ≤ 60
          · rw [show min k 60 = k from by omega, List.take_of_length_le (by rw [List.length_map]; have := HN.out; omega), List.take_of_length_le (by rw [List.length_map]; have := HN.out; omega)]
          · rw [show min k 60 = 60 from by omega]]
        rw [List.map_take, List.map_map]

set_option maxHeartbeats 2000000 in
set_option maxRecDepth 100000 in
theorem mayw (rs : List (Nd × Value)) (v : Value) (w : World) (hV : Go.Proofs.YthfbkhjcnfjmmaaDoor.LexC.Vars w) (h : RN w v rs) (hnm : rs.length ≤ maxLen) (hwf : ∀ p ∈ rs, -9223372036854775808 ≤ p.1.n ∧ p.1.n < 9223372036854775808) :
    Calls Tryd.prog 8 #[v] w fun e w' => e = .returned (.bool true) ∧ Below w.heap.size w w' := by
  replace hV := Aside0.mk hV
  generalize hL : ((rs.map (·.1)).take 60).map cutN = L
  have HL := Lib.hid hL
  have FC : Hid (∀ W, Chg [] w W → Calls Tryd.prog 16 #[v] W fun e w' => (∃ v' rs', e = .returned v' ∧ RN w' v' rs' ∧ rs'.map (·.1) = L) ∧ Chg [] W w') := Lib.hid (fun W k => by rw [← hL]; exact few_calls rs v W (h.chg k) hnm)
  have hb : ∀ (rs' : List (Nd × Value)), rs'.map (·.1) = L → rs'.length ≤ 10000 ∧ (∀ p ∈ rs', p.1.l.length ≤ 10000) ∧ ∀ p ∈ rs', -9223372036854775808 ≤ p.1.n ∧ p.1.n < 9223372036854775808 := fun rs' he => by
    have h1 := congrArg List.length he
    rw [← hL, List.length_map, List.length_map, List.length_take] at h1
    have h2 : ∀ p ∈ rs', ∃ x ∈ rs, p.1 = cutN x.1 := fun p hp => by
      have : p.1 ∈ rs'.map (·.1) := List.mem_map_of_mem hp
      rw [he, ← hL] at this
      obtain ⟨y, hy, hy2⟩ := List.mem_map.1 this
      obtain ⟨x, hx, rfl⟩ := List.mem_map.1 (List.mem_of_mem_take hy)
      exact ⟨x, hx, hy2.symm⟩
    refine ⟨by omega, fun p hp => ?_, fun p hp => ?_⟩
    · obtain ⟨x, _, hx⟩ := h2 p hp
      rw [hx]
      show (x.1.l.take 20).length ≤ _
      rw [List.length_take]; omega
    · obtain ⟨x, hx, hx2⟩ := h2 p hp
      rw [hx2]
      exact hwf x hx
  have HBD := Lib.hid hb
  clear hL h hnm hwf hb
  go_enter Tryd.func8, Tryd.ntmps8
  go_wp2_with fail
  refine (shown_calls _ hV.out).mono ?_
  rintro e w1 ⟨rfl, hb⟩
  have K1 := Lib.hid (Heap.Chg.of_below (F := []) hb)
  clear hb
  go_wp2_with fail
  refine (FC.out w1 K1.out).mono ?_
  rintro e w2 ⟨⟨v2, rs2, rfl, hR, hM⟩, hc⟩
  obtain ⟨l1, l2, l3⟩ := HBD.out rs2 hM
  have MC := Lib.hid (may_calls rs2 v2 w2 hR l1 l2 l3)
  rw [hM] at MC
  have K2 := Lib.hid (K1.out.sub hc)
  clear hR hM l1 l2 l3 hc
  go_wp2_with fail
  refine MC.out.mono ?_
  rintro e w3 ⟨rfl, hb⟩
  have K3 := Lib.hid (K2.out.sub (Heap.Chg.of_below (F := []) hb))
  clear hb MC
  go_wp2_with fail
  refine (FC.out w3 K3.out).mono ?_
  rintro e w4 ⟨⟨v4, rs4, rfl, hR, hM⟩, hc⟩
  obtain ⟨l1, l2, l3⟩ := HBD.out rs4 hM
  have MC := Lib.hid (rmay_calls rs4 v4 w4 hR l1 l2)
  rw [hM] at MC
  have K4 := Lib.hid (K3.out.sub hc)
  clear hR hM l1 l2 l3 hc
  go_wp2_with fail
  refine MC.out.mono ?_
  rintro e w5 ⟨rfl, hb⟩
  have K5 := Lib.hid (K4.out.sub (Heap.Chg.of_below (F := []) hb))
  clear hb MC
  go_wp2_with fail
  go_ret
  exact ⟨by simp, K5.out.below⟩
theorem walkReadMay (A : Option Addr) (c : Nat) (l : List (S32)) (w : World) (hL : laidMetH Tryd.prog Rows.readMayRow.laid w) (hF : Kd.F k32 w (fun _ => True) A l.length l) (hl : l.length ≤ c) (hw : l.length ≤ maxLen ∧ ∀ b ∈ l, nodeWf b) :
    Calls Tryd.prog 8 #[.slice A l.length c] w fun e w' => e = .returned (.bool true) ∧ Below w.heap.size w w' := by
  have hC : Kd.C k32 w A l.length l := Kd.F_now hF
  obtain ⟨rs, he, hR⟩ := RN_C hC hl
  have hlen : rs.length = l.length := by have := congrArg List.length he; simpa using this
  have e6 : IntKind.i64.min = -9223372036854775808 ∧ IntKind.i64.max = 9223372036854775807 := by decide
  refine mayw rs _ w (Go.Proofs.YthfbkhjcnfjmmaaDoor.LexC.vars_of hL (by kernel_rfl) (by kernel_rfl)) hR (by rw [hlen]; exact hw.1) (fun p hp => ?_)
  have : p.1 ∈ rs.map (·.1) := List.mem_map_of_mem hp
  rw [he] at this
  obtain ⟨x, hx, hx2⟩ := List.mem_map.1 this
  have h2 := (hw.2 x hx).2.2.1
  rw [← hx2]
  simp only [Lit.wf, e6.1, e6.2, Bool.and_eq_true, decide_eq_true_eq] at h2
  show -9223372036854775808 ≤ x.f2 ∧ x.f2 < 9223372036854775808
  omega
end Go.Proofs.YthfbkhjcnfjmmaaDoor.ReadM

/- The walk of ShowData: for any row and place the law answers true; its premises are what the row gives. -/
import Derived.Test.YtomhkemdafiphaaGreatDoorShowL3
import Derived.Test.YtomhkemdafiphaaGreatDoorShowK
import Derived.Test.YtomhkemdafiphaaGreatDoorRows
namespace Go.Proofs.YtomhkemdafiphaaGreatDoor.ShowC
open Go Go.RowKit Go.Proofs.YtomhkemdafiphaaGreatDoor.Heap Go.Proofs.YtomhkemdafiphaaGreatDoor.ReadP Go.Proofs.YtomhkemdafiphaaGreatDoor.TreeP Go.Proofs.YtomhkemdafiphaaGreatDoor.ShowP Go.Proofs.YtomhkemdafiphaaGreatDoor.PMays Go.Proofs.YtomhkemdafiphaaGreatDoor.Pure
open Go.Proofs.YtomhkemdafiphaaGreatDoor.ReadM (RI RN nodeC intOf6 RN_C nodeWf rmay_calls)
open Go.Proofs.YtomhkemdafiphaaGreatDoorW.PrintWords (Kd Aside0 below_then below_alloc)
open Go.Lib (itoa)
set_option maxHeartbeats 4000000 in
set_option maxRecDepth 100000 in
theorem rshow_calls {w : World} {vL : Value} {rs : List (Nd × Value)} (h : RN w vL rs) (hl : rs.length ≤ 10000) (hl2 : ∀ p ∈ rs, p.1.l.length ≤ 10000) (hwf : ∀ p ∈ rs, -9223372036854775808 ≤ p.1.n ∧ p.1.n < 9223372036854775808) (hs : ∀ p ∈ rs, p.1.s.length ≤ 10000) (i : Int) :
    Calls Tryz.prog 12 #[vL, .int .i64 i] w fun e w' => e = datumE (datumP (rs.map (·.1)) i) ∧ Chg [] w w' := by
  have MC := Lib.hid (rmay_calls rs vL w h hl hl2)
  obtain ⟨A, c, hv, hc, _⟩ := id h
  have hlen : rs.length = (rs.map (·.1)).length := by rw [List.length_map]
  have DD : Hid (∀ w1, Chg [] w w1 → mayF 0 [] (rs.map (·.1)) = true → Dat w1 vL rs (rs.map (·.1))) := Lib.hid (fun w1 k hm => ⟨h.chg k, rfl, by rw [← hlen]; exact hl, fun x hx => by obtain ⟨p, hp, rfl⟩ := List.mem_map.1 hx; exact hl2 p hp, (Tree.of_may hm).ahead, fun x hx => by obtain ⟨p, hp, rfl⟩ := List.mem_map.1 hx; exact hwf p hp⟩)
  have DL : Hid (mayF 0 [] (rs.map (·.1)) = true → ∀ k : Nat, k < (rs.map (·.1)).length → (datX (rs.map (·.1)) (rs.map (·.1)).length (k : Int)).length ≤ 1000000000) := Lib.hid (fun hm k hk => by
    have hz : ∀ i : Nat, (itoa (nd (rs.map (·.1)) (i : Int)).n).length ≤ 24 := fun i => by
      have := nd_field (L := rs.map (·.1)) (·.n) (fun n => -9223372036854775808 ≤ n ∧ n < 9223372036854775808) ⟨by decide, by decide⟩ (fun x hx => by obtain ⟨p, hp, rfl⟩ := List.mem_map.1 hx; exact hwf p hp) (i : Int)
      have := Lib.itoa_length_le (nd (rs.map (·.1)) (i : Int)).n this.1 (by have := this.2; omega)
      omega
    have h1 : ∀ i : Nat, (nd (rs.map (·.1)) (i : Int)).s.length ≤ 10000 := fun i => nd_field (L := rs.map (·.1)) (·.s) (fun s => s.length ≤ 10000) (by simp) (fun x hx => by obtain ⟨p, hp, rfl⟩ := List.mem_map.1 hx; exact hs p hp) (i : Int)
    have h2 : ∀ i : Nat, (nd (rs.map (·.1)) (i : Int)).l.length ≤ 10000 := fun i => nd_field (L := rs.map (·.1)) (·.l) (fun l => l.length ≤ 10000) (by simp) (fun x hx => by obtain ⟨p, hp, rfl⟩ := List.mem_map.1 hx; exact hl2 p hp) (i : Int)
    have := dat_len (Tree.of_may hm) 20024 hz (fun i => by have := h1 i; have := h2 i; omega) (rs.map (·.1)).length (k : Int) (by omega) (by omega)
    have h3 : ((k : Int).toNat + 1) * 20024 ≤ 10000 * 20024 := Nat.mul_le_mul_right _ (by omega)
    omega)
  clear hs hwf hl2
  rw [hlen] at hv hl
  generalize rs.map (·.1) = L at *
  rw [hv] at MC DD ⊢
  clear hv h hc hlen
  have bl0 : (0 : Int) ≤ (L.length : Int) := by omega
  have bl1 : (L.length : Int) ≤ 10000 := by omega
  cases hm : mayF 0 [] L with
  | false =>
    have hans : datumP L i = none := by unfold datumP; rw [if_neg (by simp [hm])]
    have HANS := Lib.hid hans
    have HM := Lib.hid hm
    clear hans hm
    go_enter Tryz.func12, Tryz.ntmps12
    go_wp2_with fail
    refine MC.out.mono ?_
    rintro e w1 ⟨rfl, hb⟩
    rw [show mayF 0 [] L = false from HM]
    have K1 := Lib.hid (Chg.of_below (F := []) hb)
    clear hb
    go_wp2_with fail
    go_ret2
    rw [HANS.out]
    exact ⟨rfl, K1.out⟩
  | true =>
    by_cases hi0 : i < 0
    · have c0 : decide (i < 0) = true := decide_eq_true hi0
      have hans : datumP L i = none := by unfold datumP; rw [if_neg (by omega)]
      have HANS := Lib.hid hans
      have HM := Lib.hid hm
      clear hans hm hi0
      go_enter Tryz.func12, Tryz.ntmps12
      go_wp2_with fail
      refine MC.out.mono ?_
      rintro e w1 ⟨rfl, hb⟩
      rw [show mayF 0 [] L = true from HM]
      have K1 := Lib.hid (Chg.of_below (F := []) hb)
      clear hb
      go_wp2_with fail
      go_ret2
      rw [HANS.out]
      exact ⟨rfl, K1.out⟩
    · obtain ⟨k, rfl⟩ : ∃ k : Nat, i = (k : Int) := ⟨i.toNat, by omega⟩
      have c0 : decide ((k : Int) < 0) = false := decide_eq_false hi0
      by_cases hk : k < L.length
      · have c1 : decide ((L.length : Int) ≤ (k : Int)) = false := decide_eq_false (by omega)
        have c1' : decide (L.length ≤ k) = false := decide_eq_false (by omega)
        have hans : datumP L (k : Int) = some (datX L L.length (k : Int)) := by unfold datumP; rw [if_pos ⟨hm, by omega, by omega⟩]
        have HANS := Lib.hid hans
        have HM := Lib.hid hm
        have DC := Lib.hid (fun w1 (k1 : Chg [] w w1) => rdatum_calls (DD.out w1 k1 hm) L.length L.length (Nat.le_refl _) (Nat.le_refl _) k w1 hk (Chg.refl _ _) (DL.out hm k hk))
        clear hans hm hi0 hk DL DD
        go_enter Tryz.func12, Tryz.ntmps12
        go_wp2_with fail
        refine MC.out.mono ?_
        rintro e w1 ⟨rfl, hb⟩
        rw [show mayF 0 [] L = true from HM]
        have K1 := Lib.hid (Chg.of_below (F := []) hb)
        have DC1 := Lib.hid (DC.out w1 K1.out)
        clear hb DC
        go_wp2_with fail
        refine DC1.out.mono ?_
        rintro e w3 ⟨rfl, k3⟩
        go_wp2_with fail
        go_ret2
        rw [HANS.out]
        exact ⟨rfl, K1.out.sub k3⟩
      · have c1 : decide ((L.length : Int) ≤ (k : Int)) = true := decide_eq_true (by omega)
        have c1' : decide (L.length ≤ k) = true := decide_eq_true (by omega)
        have hans : datumP L (k : Int) = none := by unfold datumP; rw [if_neg (by omega)]
        have HANS := Lib.hid hans
        have HM := Lib.hid hm
        clear hans hm hi0 hk
        go_enter Tryz.func12, Tryz.ntmps12
        go_wp2_with fail
        refine MC.out.mono ?_
        rintro e w1 ⟨rfl, hb⟩
        rw [show mayF 0 [] L = true from HM]
        have K1 := Lib.hid (Chg.of_below (F := []) hb)
        clear hb
        go_wp2_with fail
        go_ret2
        rw [HANS.out]
        exact ⟨rfl, K1.out⟩
set_option maxHeartbeats 4000000 in
set_option maxRecDepth 100000 in
theorem dataw (rs : List (Nd × Value)) (v : Value) (i : Int) (w : World) (hV : VarsS w) (h : RN w v rs) (hnm : rs.length ≤ maxLen) (hwf : ∀ p ∈ rs, -9223372036854775808 ≤ p.1.n ∧ p.1.n < 9223372036854775808) :
    Calls Tryz.prog 3 #[v, .int .i64 i] w fun e w' => e = .returned (.bool true) ∧ Chg [] w w' := by
  have HV := Lib.hid hV
  generalize hL : ((rs.map (·.1)).take 60).map cutN = L
  have FC : Hid (∀ W, Chg [] w W → Calls Tryz.prog 11 #[v] W fun e w' => (∃ v' rs', e = .returned v' ∧ RN w' v' rs' ∧ rs'.map (·.1) = L) ∧ Chg [] W w') := Lib.hid (fun W k => by rw [← hL]; exact few_calls rs v W (h.chg k) hnm)
  have hb : ∀ (rs' : List (Nd × Value)), rs'.map (·.1) = L → rs'.length ≤ 10000 ∧ (∀ p ∈ rs', p.1.l.length ≤ 10000) ∧ (∀ p ∈ rs', -9223372036854775808 ≤ p.1.n ∧ p.1.n < 9223372036854775808) ∧ ∀ p ∈ rs', p.1.s.length ≤ 10000 := fun rs' he => by
    have h1 := congrArg List.length he
    rw [← hL, List.length_map, List.length_map, List.length_take] at h1
    have h2 : ∀ p ∈ rs', ∃ x ∈ rs, p.1 = cutN x.1 := fun p hp => by
      have : p.1 ∈ rs'.map (·.1) := List.mem_map_of_mem hp
      rw [he, ← hL] at this
      obtain ⟨y, hy, hy2⟩ := List.mem_map.1 this
      obtain ⟨x, hx, rfl⟩ := List.mem_map.1 (List.mem_of_mem_take hy)
      exact ⟨x, hx, hy2.symm⟩
    refine ⟨by omega, fun p hp => ?_, fun p hp => ?_, fun p hp => ?_⟩
    · obtain ⟨x, _, hx⟩ := h2 p hp
      rw [hx]
      show (x.1.l.take 20).length ≤ _
      rw [List.length_take]; omega
    · obtain ⟨x, hx, hx2⟩ := h2 p hp
      rw [hx2]
      exact hwf x hx
    · obtain ⟨x, _, hx⟩ := h2 p hp
      rw [hx]
      show (x.1.s.take 40).length ≤ _
      rw [List.length_take]; omega
  have HBD := Lib.hid hb
  clear hL h hnm hwf hb hV
  cases hd : datumP L i with
  | none =>
    have HD := Lib.hid hd
    clear hd
    go_enter Tryz.func3, Tryz.ntmps3
    go_wp2_with fail
    refine (FC.out w (Chg.refl _ _)).mono ?_
    rintro e w2 ⟨⟨v2, rs2, rfl, hR, hM⟩, k2⟩
    obtain ⟨l1, l2, l3, l4⟩ := HBD.out rs2 hM
    have DC := Lib.hid (show_calls hR l1 l2 l3 l4 ((HV.out.chg k2).t) i)
    rw [hM, show datumP L i = none from HD] at DC
    have K2 := Lib.hid k2
    clear hR hM l1 l2 l3 l4 k2
    go_wp2_with fail
    refine DC.out.mono ?_
    rintro e w3 ⟨rfl, k3⟩
    unfold datumE
    simp only
    have K3 := Lib.hid (K2.out.sub k3)
    clear k3 DC
    go_wp2_with fail
    refine (FC.out w3 K3.out).mono ?_
    rintro e w4 ⟨⟨v4, rs4, rfl, hR, hM⟩, k4⟩
    obtain ⟨l1, l2, l3, l4⟩ := HBD.out rs4 hM
    have DC := Lib.hid (rshow_calls hR l1 l2 l3 l4 i)
    rw [hM, show datumP L i = none from HD] at DC
    have K4 := Lib.hid (K3.out.sub k4)
    clear hR hM l1 l2 l3 l4 k4
    go_wp2_with fail
    refine DC.out.mono ?_
    rintro e w5 ⟨rfl, k5⟩
    unfold datumE
    simp only
    have K5 := Lib.hid (K4.out.sub k5)
    clear k5 DC
    go_wp2_with fail
    refine (shown_calls _ (HV.out.chg K5.out)).mono ?_
    rintro e w6 ⟨rfl, k6⟩
    have K6 := Lib.hid (K5.out.sub k6)
    clear k6
    go_wp2_with fail
    go_ret
    exact ⟨by simp, K6.out⟩
  | some t =>
    have HD := Lib.hid hd
    clear hd
    go_enter Tryz.func3, Tryz.ntmps3
    go_wp2_with fail
    refine (FC.out w (Chg.refl _ _)).mono ?_
    rintro e w2 ⟨⟨v2, rs2, rfl, hR, hM⟩, k2⟩
    obtain ⟨l1, l2, l3, l4⟩ := HBD.out rs2 hM
    have DC := Lib.hid (show_calls hR l1 l2 l3 l4 ((HV.out.chg k2).t) i)
    rw [hM, show datumP L i = some t from HD] at DC
    have K2 := Lib.hid k2
    clear hR hM l1 l2 l3 l4 k2
    go_wp2_with fail
    refine DC.out.mono ?_
    rintro e w3 ⟨rfl, k3⟩
    unfold datumE
    simp only
    have K3 := Lib.hid (K2.out.sub k3)
    clear k3 DC
    go_wp2_with fail
    refine (FC.out w3 K3.out).mono ?_
    rintro e w4 ⟨⟨v4, rs4, rfl, hR, hM⟩, k4⟩
    obtain ⟨l1, l2, l3, l4⟩ := HBD.out rs4 hM
    have DC := Lib.hid (rshow_calls hR l1 l2 l3 l4 i)
    rw [hM, show datumP L i = some t from HD] at DC
    have K4 := Lib.hid (K3.out.sub k4)
    clear hR hM l1 l2 l3 l4 k4
    go_wp2_with fail
    refine DC.out.mono ?_
    rintro e w5 ⟨rfl, k5⟩
    unfold datumE
    simp only
    have K5 := Lib.hid (K4.out.sub k5)
    clear k5 DC
    go_wp2_with fail
    refine (shown_calls _ (HV.out.chg K5.out)).mono ?_
    rintro e w6 ⟨rfl, k6⟩
    have K6 := Lib.hid (K5.out.sub k6)
    clear k6
    go_wp2_with fail
    go_ret
    exact ⟨by simp, K6.out⟩
theorem walkShowData (A : Option Addr) (c : Nat) (l : List (S34)) (i : Int) (w : World) (hL : laidMetH Tryz.prog Rows.showDataRow.laid w) (hF : Kd.F k34 w (fun _ => True) A l.length l) (hl : l.length ≤ c) (hw : l.length ≤ maxLen ∧ ∀ b ∈ l, nodeWf b) (_hi : (Lit.int .i64 i).wf = true) :
    Calls Tryz.prog 3 #[.slice A l.length c, .int .i64 i] w fun e w' => e = .returned (.bool true) ∧ Below w.heap.size w w' := by
  have hC : Kd.C k34 w A l.length l := Kd.F_now hF
  obtain ⟨rs, he, hR⟩ := RN_C hC hl
  have hlen : rs.length = l.length := by have := congrArg List.length he; simpa using this
  have e6 : IntKind.i64.min = -9223372036854775808 ∧ IntKind.i64.max = 9223372036854775807 := by decide
  refine (dataw rs _ i w (varsS_of hL (by kernel_rfl) (by kernel_rfl) (by kernel_rfl)) hR (by rw [hlen]; exact hw.1) (fun p hp => ?_)).mono (fun e w' h => ⟨h.1, h.2.below⟩)
  have : p.1 ∈ rs.map (·.1) := List.mem_map_of_mem hp
  rw [he] at this
  obtain ⟨x, hx, hx2⟩ := List.mem_map.1 this
  have h2 := (hw.2 x hx).2.2.1
  rw [← hx2]
  simp only [Lit.wf, e6.1, e6.2, Bool.and_eq_true, decide_eq_true_eq] at h2
  show -9223372036854775808 ≤ x.f2 ∧ x.f2 < 9223372036854775808
  omega
end Go.Proofs.YtomhkemdafiphaaGreatDoor.ShowC

/- The walk of ShowLists: for any numbers the law answers true; its premises are what the row gives. -/
import Derived.Test.YtomhkemdafiphaaGreatDoorShowN
import Derived.Test.YtomhkemdafiphaaGreatDoorShowT
import Derived.Test.YtomhkemdafiphaaGreatDoorRows
namespace Go.Proofs.YtomhkemdafiphaaGreatDoor.ShowC
open Go.Proofs.YtomhkemdafiphaaGreatDoor.Word Go Go.RowKit Go.Proofs.YtomhkemdafiphaaGreatDoor.Heap Go.Proofs.YtomhkemdafiphaaGreatDoor.LexP Go.Proofs.YtomhkemdafiphaaGreatDoor.ReadP Go.Proofs.YtomhkemdafiphaaGreatDoor.TreeP Go.Proofs.YtomhkemdafiphaaGreatDoor.ShowP Go.Proofs.YtomhkemdafiphaaGreatDoor.ShowB Go.Proofs.YtomhkemdafiphaaGreatDoor.ShowW
open Go.Proofs.YtomhkemdafiphaaGreatDoor.Ar (Thing IsAr new_calls alloc_calls rd_new kindA lenA getA)
open Go.Proofs.YtomhkemdafiphaaGreatDoor.Own (IsRow Src min_nat)
open Go.Proofs.YtomhkemdafiphaaGreatDoor.ReadM (RI RN nodeC intOf6 read_calls ReadPost Nodes Ints)
open Go.Lib (itoa byteCells)
attribute [local go_sem] Go.Proofs.YtomhkemdafiphaaGreatDoor.Own.max2_int Go.Proofs.YtomhkemdafiphaaGreatDoor.Own.min2_int Go.Proofs.YtomhkemdafiphaaGreatDoor.Own.max_two Go.Proofs.YtomhkemdafiphaaGreatDoor.Own.min_two
/-- numbers modulo k -/
def mods (k : Int) (xs : List Int) : List Int := xs.map (·.tmod k)
theorem mods_bd {k : Int} (h0 : 0 < k) (h1 : k ≤ 1000) (xs : List Int) : ∀ u ∈ mods k xs, -999 ≤ u ∧ u ≤ 999 := fun u hu => by
  obtain ⟨x, _, rfl⟩ := List.mem_map.1 hu
  have h2 := Int.tmod_lt_of_pos x h0
  have h3 := Int.lt_tmod_of_pos x h0
  omega
theorem drop_at {vs : List Int} {j : Nat} (h : j < vs.length) : ∃ v, vs[vs.length - 1 - j]? = some v ∧ vs.drop (vs.length - (j + 1)) = v :: vs.drop (vs.length - j) := by
  refine ⟨_, List.getElem?_eq_getElem (by omega), ?_⟩
  rw [show vs.length - (j + 1) = vs.length - 1 - j by omega, List.drop_eq_getElem_cons (by omega), show vs.length - 1 - j + 1 = vs.length - j by omega]
theorem num_tok {v : Int} (h : -999 ≤ v ∧ v ≤ 999) : ∃ c r, digL v = c :: r ∧ (∀ x ∈ c :: r, isLetter x = true) ∧ tokP (c :: r) = .ok (4, v, []) := by
  obtain ⟨d1, d2, d3⟩ := decN_ok 14 v.natAbs (by omega)
  have d3 := d3 (by omega)
  have hmag : magP (decN 14 v.natAbs) = v.natAbs := d2
  have hl3 := decN_len 14 v.natAbs 3 (by omega) (by omega)
  obtain ⟨c, r, hcr⟩ := List.exists_cons_of_ne_nil d3
  have hlet := digits_letters _ d1
  rw [hcr] at hlet d1 hmag hl3
  have hc45 : c ≠ 45 := by
    intro h; subst h; simp [isDigit] at d1
  by_cases hneg : v < 0
  · refine ⟨45, c :: r, by unfold digL; rw [if_pos hneg, hcr], ?_, ?_⟩
    · intro x hx
      rcases List.mem_cons.1 hx with rfl | h
      · decide
      · exact hlet x h
    · have hnp : numP (45 :: c :: r) = true := by rw [numP_cons2, if_pos (by rfl), d1]; rfl
      have hvv : valP (45 :: c :: r) = v := by
        show -(magP (c :: r) : Int) = v
        rw [hmag]; omega
      unfold tokP
      rw [if_pos hnp, hvv, if_neg (by simp only [List.length_cons] at hl3 ⊢; omega)]
  · refine ⟨c, r, by unfold digL; rw [if_neg hneg, hcr], hlet, ?_⟩
    have hnp : numP (c :: r) = true := by
      rw [numP_cons2, if_neg (by simpa using hc45)]; exact d1
    have hvv : valP (c :: r) = v := by
      have : valP (c :: r) = (magP (c :: r) : Int) := by
        unfold valP; split
        · rename_i h; injection h with h1 _; exact absurd h1 hc45
        · rfl
      rw [this, hmag]; omega
    unfold tokP
    rw [if_pos hnp, hvv, if_neg (by omega)]
theorem num_again {v : Int} (h : -999 ≤ v ∧ v ≤ 999) : Again ⟨4, 0, v, []⟩ := by
  obtain ⟨c, r, h1, h2, h3⟩ := num_tok h
  exact tok_again (c :: r) h2 (by simp) 0 (t := (4, v, [])) h3
def numIt (v : Int) : It := leafIt ⟨1, 0, v, [], []⟩ (textL ⟨4, 0, v, []⟩)
theorem num_it {v : Int} (h : -999 ≤ v ∧ v ≤ 999) : (numIt v).Ok := num_ok (tk := ⟨4, 0, v, []⟩) (num_again h) rfl ⟨by show -1099511627776 < v; omega, by show v < 1099511627776; omega⟩
theorem num_txt {v : Int} (h : -999 ≤ v ∧ v ≤ 999) : (numIt v).txt = itoa v := digL_itoa v (by omega) (by omega)
theorem more_num : ∀ (vs : List Int), (∀ u ∈ vs, -999 ≤ u ∧ u ≤ 999) → moreT (vs.map numIt) = tailT vs
  | [], _ => rfl
  | v :: r, h => by
    rw [List.map_cons, moreT, num_txt (h v (List.mem_cons_self ..)), more_num r (fun u hu => h u (List.mem_cons_of_mem _ hu)), tail_cons]
theorem body_num (vs : List Int) (h : ∀ u ∈ vs, -999 ≤ u ∧ u ≤ 999) : bodyT vs = joinT (vs.map numIt) ++ [41] := by
  cases vs with
  | nil => rfl
  | cons v r =>
    rw [List.map_cons, joinT, num_txt (h v (List.mem_cons_self ..)), more_num r (fun u hu => h u (List.mem_cons_of_mem _ hu)), List.append_assoc]
    rfl
theorem rows_num : ∀ (vs : List Int) (n : Nat), rowsOf n (vs.map numIt) = vs.map fun v => ⟨1, 0, v, [], []⟩
  | [], _ => rfl
  | v :: r, n => by
    rw [List.map_cons, rowsOf, rows_num r]
    rfl
theorem deep_num : ∀ (vs : List Int), deepL (vs.map numIt) = 0
  | [] => rfl
  | v :: r => by
    rw [List.map_cons, deepL, deep_num r]
    rfl
theorem read_list {vs : List Int} (h : ∀ u ∈ vs, -999 ≤ u ∧ u ≤ 999) (hl : (listT vs).length ≤ 4000) : ∃ R p, readF (listT vs) = .ok (R, [p]) ∧ R.length = vs.length + 1 ∧ (∀ (k : Nat) (v : Int), vs[k]? = some v → ∃ y : Nd, R[k]? = some y ∧ y.kind = 1 ∧ y.n = v) ∧ ∃ y : Nd, R[vs.length]? = some y ∧ y.kind = 4 := by
  have hok : ∀ t ∈ vs.map numIt, t.Ok := fun t ht => by
    obtain ⟨v, hv, rfl⟩ := List.mem_map.1 ht
    exact num_it (h v hv)
  obtain ⟨X, x1, x2⟩ := reads_join (vs.map numIt) 1 hok
  obtain ⟨f', p1, p2⟩ := puts_brackets x2 0 ((1 + (joinT (vs.map numIt)).length : Nat) : Int)
  have e : listT vs = 40 :: (joinT (vs.map numIt) ++ [41]) := by unfold listT; rw [body_num vs h]
  have hlex : lexL 0 (listT vs) = .ok (⟨1, 0, 0, []⟩ :: (X ++ [⟨2, ((1 + (joinT (vs.map numIt)).length : Nat) : Int), 0, []⟩])) := by
    rw [e, lex_open, x1 [], lex_close, show lexL (1 + (joinT (vs.map numIt)).length + 1) [] = .ok [] from rfl]
    rfl
  have ht := puts_top p1 (by rw [deep_num]; decide) [] []
  rw [deep_num] at p1
  obtain ⟨q1, q2⟩ := p2 0
  rw [rows_num] at q1
  have hn : (f' 0).1.length = vs.length := by have := congrArg List.length q1; simpa using this
  refine ⟨_, _, read_of hl hlex ht, by simp [hn], fun k v hv => ?_, (f' 0).2, ?_, congrArg Nd.kind q2⟩
  · have hk : k < vs.length := (List.getElem?_eq_some_iff.1 hv).1
    have h1 := congrArg (fun l => l[k]?) q1
    simp only [List.getElem?_map, hv, Option.map_some] at h1
    cases h2 : (f' 0).1[k]? with
    | none => rw [h2] at h1; cases h1
    | some y =>
      rw [h2] at h1
      simp only [Option.map_some, Option.some.injEq] at h1
      exact ⟨y, by simp only [List.length_nil, List.nil_append]; rw [List.getElem?_append_left (by omega)]; exact h2, congrArg Nd.kind h1, congrArg Nd.n h1⟩
  · simp only [List.length_nil, List.nil_append]
    rw [← hn]
    simp
/-- a text that was cut ends in dots, and another does not -/
theorem cut_end {s : List UInt8} (h : 120 < s.length) : (cutS s).length = 120 ∧ (cutS s).drop 117 = [46, 46, 46] := by
  have e : cutS s = s.take 117 ++ [46, 46, 46] := by unfold cutS; rw [if_pos h]
  have hl : (s.take 117).length = 117 := by rw [List.length_take]; omega
  rw [e]
  refine ⟨by simp; omega, ?_⟩
  rw [List.drop_append_of_le_length (by omega), List.drop_of_length_le (by omega)]
  rfl
theorem list_last (vs : List Int) : (listT vs).getLast? = some 41 := by
  unfold listT
  cases vs with
  | nil => rfl
  | cons v r =>
    have : (40 :: bodyT (v :: r)) = (40 :: (itoa v ++ tailT r)) ++ [41] := by simp [bodyT]
    rw [this, List.getLast?_append]
    rfl
theorem list_end {vs : List Int} (_h : (listT vs).length = 120) : (listT vs).drop 117 ≠ [46, 46, 46] := fun e => by
  have h1 := list_last vs
  have h2 : listT vs = (listT vs).take 117 ++ [46, 46, 46] := by rw [← e, List.take_append_drop]
  rw [h2, List.getLast?_append] at h1
  simp at h1
theorem ext_end {l : List UInt8} (h : l.length = 120) : ((⟨l.toArray⟩ : ByteArray).extract 117 120).toList = l.drop 117 := by
  rw [Go.Proofs.YtomhkemdafiphaaGreatDoor.ReadM.ba_tl, ByteArray.data_extract]
  simp only [List.extract_toArray, List.toList_toArray, List.extract_eq_take_drop]
  rw [List.take_of_length_le (by rw [List.length_drop]; omega)]
set_option maxHeartbeats 8000000 in
set_option maxRecDepth 100000 in
theorem listsw (A : Option Addr) (len cap : Nat) (zs : List Int) (w : World) (hV : VarsS w) (hz : IsRow .i64 w A len cap zs) :
    Calls Tryz.prog 5 #[.slice A len cap] w fun e w' => e = .returned (.bool true) ∧ Chg [] w w' := by
  have HV := Lib.hid hV
  obtain ⟨m, hmin, m1, m2, _⟩ := min_nat len 200 200 rfl
  have hlc : len ≤ cap := by rcases hz with ⟨_, rfl, rfl, _⟩ | ⟨_, _, h, _⟩ <;> omega
  have hlz : (zs.take m).length = m := by
    rcases hz with ⟨_, rfl, rfl, rfl⟩ | ⟨_, _, h, _, h2, _⟩
    · simp; omega
    · simp; omega
  have HSRC := Lib.hid (hz.src m m1 cap)
  generalize zs.take m = xs at *
  have HLZ := Lib.hid hlz
  have bm : (m : Int) ≤ 200 := by omega
  clear hz hV hlz
  obtain ⟨vs, hvs⟩ : ∃ vs, vs = mods 1000 xs := ⟨_, rfl⟩
  have HVS := Lib.hid hvs
  have HVL := Lib.hid (show vs.length = m by rw [hvs]; unfold mods; rw [List.length_map]; exact HLZ.out)
  have HBD := Lib.hid (show ∀ u ∈ vs, -999 ≤ u ∧ u ≤ 999 by rw [hvs]; exact mods_bd (by decide) (by decide) xs)
  have HXV := Lib.hid (show ∀ (k : Nat), k < m → ∃ x, xs[k]? = some x ∧ vs[k]? = some (x.tmod 1000) by
    intro k hk
    refine ⟨_, List.getElem?_eq_getElem (by rw [show xs.length = m from HLZ]; exact hk), ?_⟩
    rw [hvs]; unfold mods
    rw [List.getElem?_map, List.getElem?_eq_getElem (by rw [show xs.length = m from HLZ]; exact hk)]; rfl)
  clear hvs
  go_enter Tryz.func5, Tryz.ntmps5
  go_wp2_with fail
  refine (shown_calls _ HV.out).mono ?_
  rintro e w2 ⟨rfl, k2⟩
  have K2 := Lib.hid k2
  clear k2
  go_wp2_with fail
  refine (new_calls 700 _ (by decide) (by decide)).mono ?_
  rintro e w3 ⟨g, bw, bh, rfl, ha, hc, l1, l2, l3⟩
  have HGG := Lib.hid (show w2.heap.size ≤ g ∧ w2.heap.size ≤ bw ∧ w2.heap.size ≤ bh from ⟨l1, l2, l3⟩)
  have K3 := Lib.hid (K2.out.sub hc)
  have HA3 := Lib.hid ha
  clear ha hc l1 l2 l3
  go_wp2_with fail
  go_loopw [36, 7] (fun i p wx => ∃ j : Nat, i = .int .i64 j ∧ j ≤ m ∧ p = .int .u64 (ptrL (vs.drop (m - j))) ∧ Hid (IsAr wx g bw bh 700 (thL (vs.drop (m - j)))) ∧ Hid (Chg [g, bw, bh] w3 wx)) (fun i _ _ => m - (intOf6 i).toNat)
  case atStart =>
    refine ⟨0, rfl, Nat.zero_le _, ?_, ?_, Lib.hid (Chg.refl _ _)⟩
    · rw [Nat.sub_zero, ← HVL.out, List.drop_length]; rfl
    · rw [Nat.sub_zero, ← HVL.out, List.drop_length]; exact HA3
  case round =>
    obtain ⟨j, rfl, hj, rfl, HA, HC⟩ := hrel
    have hvl : vs.length = m := HVL
    have kw : Chg [] w wr := K3.out.trans HC.out (fun b hb => by
      have h3 := HGG.out
      have h4 := K2.out.size
      simp only [List.mem_cons, List.not_mem_nil, or_false] at hb
      rcases hb with rfl | rfl | rfl <;> exact .inr (by omega))
    by_cases hjn : j < m
    · have e0 : decide ((j : Int) < (m : Int)) = true := decide_eq_true (by omega)
      have e0' : decide (j < m) = true := decide_eq_true hjn
      obtain ⟨v, hv, hdr⟩ := drop_at (vs := vs) (j := j) (by omega)
      rw [hvl] at hv hdr
      obtain ⟨x, hx, hx2⟩ := HXV.out (m - 1 - j) (by omega)
      rw [hv] at hx2
      injection hx2 with hx2
      subst hx2
      have hbv := HBD.out _ (List.mem_of_getElem? hv)
      obtain ⟨b, o, rfl, hbl, hcell⟩ := (HSRC.out.grow kw).pl (by omega) (by decide)
      have hq : wr.cell? ⟨b, o + (m - 1 - j), none⟩ = some (.int .i64 x) := hcell _ _ (by simp [Heap.nums, hx])
      have hul : (vs.drop (m - j)).length = j := by rw [List.length_drop, hvl]; omega
      have HDR := Lib.hid hdr
      have HUL := Lib.hid hul
      have ei : (m : Int) - 1 - (j : Int) = ((m - 1 - j : Nat) : Int) := by omega
      generalize m - 1 - j = k at *
      have bk : (k : Int) < (m : Int) := by omega
      clear hdr hul hv hx hcell hbl kw
      go_wp2_with fail
      have HA2 := Lib.hid (HA.out.sub ((Chg.refl [] wr).alloc (.cells #[.int .u64 (wV (x.tmod 1000)), .int .u64 (ptrL (vs.drop (m - j)))] 41)))
      refine (alloc_calls HA2.out 1 _ [wV (x.tmod 1000), ptrL (vs.drop (m - j))] (rd_new _ _ _ rfl HA.out.lt _ _ _ rfl rfl) (by decide) (by decide) (by show (2 : Nat) ≤ 255; decide) (by rw [tot_thL, show (vs.drop (m - j)).length = j from HUL]; show 3 * j + 2 < 700; omega)).mono ?_
      rintro e w5 ⟨rfl, ha5, hc5⟩
      have hp5 : (Go.Proofs.YtomhkemdafiphaaGreatDoor.Ar.tot (thL (vs.drop (m - j))) : Int) * 8 + 1 = ptrL (vs.drop (m - (j + 1))) := by
        rw [tot_thL, show (vs.drop (m - j)).length = j from HUL, show vs.drop (m - (j + 1)) = _ from HDR]
        simp only [ptrL]
        rw [show (vs.drop (m - j)).length = j from HUL]; omega
      rw [hp5]
      have hth : thL (vs.drop (m - (j + 1))) = thL (vs.drop (m - j)) ++ [(1, [wV (x.tmod 1000), ptrL (vs.drop (m - j))])] := by
        rw [show vs.drop (m - (j + 1)) = _ from HDR]; rfl
      rw [← hth] at ha5
      have HA5 := Lib.hid ha5
      have HC5 := Lib.hid ((HC.out.alloc _).trans hc5 (fun b hb => .inl hb))
      clear ha5 hc5 hth hp5 HA2 hbv
      generalize hp6 : ptrL (vs.drop (m - (j + 1))) = p5 at *
      have HP5 := Lib.hid hp6
      clear hp6
      go_wp2_with fail
      go_roundw
      case rel => exact ⟨j + 1, by simp, by omega, by rw [HP5.out], HA5, HC5⟩
      case measure => simp [intOf6]; omega
    · have e0 : decide ((j : Int) < (m : Int)) = false := decide_eq_false (by omega)
      have e0' : decide (j < m) = false := decide_eq_false hjn
      have hjm : j = m := by omega
      subst hjm
      rw [Nat.sub_self, List.drop_zero] at HA ⊢
      have HKK := Lib.hid kw
      have HE := Lib.hid (show Env wr wr.heap.size (.pointer (some ⟨g, 0, none⟩)) (.pointer none) (thL vs) [] from
        ⟨⟨g, bw, bh, 700, rfl, HA.out⟩, .inl ⟨rfl, rfl⟩, HV.out.t.chg kw, Nat.le_refl _, th_bd (by omega), fun s hs => by cases hs⟩)
      have hpb := ptr_bd (r := vs) (by omega)
      have WC := Lib.hid (word_shown HE.out (ptrL vs) hpb.1 hpb.2)
      rw [word_list [] vs rfl (by omega) HBD.out] at WC
      generalize ptrL vs = pv at *
      have hlb : (listT vs).length ≤ 5 * j + 2 := by
        have := body_len HBD.out
        unfold listT
        rw [List.length_cons]; omega
      clear hpb kw HA HE hj hjn
      go_wp2_with fail
      refine WC.out.mono ?_
      rintro e w6 ⟨rfl, k6⟩
      have K6 := Lib.hid (HKK.out.sub k6)
      clear k6 WC HKK
      by_cases hb : 120 < (listT vs).length
      · obtain ⟨hc1, hc2⟩ := cut_end hb
        have f0 : decide ((j : Int) > 20) = true := decide_eq_true (by omega)
        have f0' : decide (20 < (j : Int)) = true := f0
        have f0'' : decide (20 < j) = true := decide_eq_true (by omega)
        generalize cutS (listT vs) = cl at *
        have g0 : decide ((120 : Int) < (cl.length : Int)) = false := decide_eq_false (by omega)
        have g0' : decide (120 < cl.length) = false := decide_eq_false (by omega)
        have g1 : ((cl.length : Int) == 120) = true := by rw [hc1]; rfl
        have p0 : (0 : Int) ≤ (cl.length : Int) - 3 := by omega
        have p1 : (cl.length : Int) - 3 ≤ (cl.length : Int) := by omega
        have p2 : (cl.length : Int) ≤ 120 := by omega
        have EQ : (((⟨cl.toArray⟩ : ByteArray).extract 117 120).toList == ([46, 46, 46] : List UInt8)) = true := by rw [ext_end hc1, hc2]; rfl
        clear hb hlb hc2
        go_wp2_with fail
        go_ret
        exact ⟨by simp, K6.out⟩
      · rw [cut_le (by omega)]
        obtain ⟨R, p, hrd, hrl, hk1, hk2⟩ := read_list HBD.out (by omega)
        have hle := list_end (vs := vs)
        have D2 := fun w hV => read_calls (⟨(listT vs).toArray⟩ : ByteArray) w hV
        rw [show (⟨(listT vs).toArray⟩ : ByteArray).data.toList = listT vs by simp, hrd] at D2
        simp only [ReadPost] at D2
        have FS2 := Lib.hid D2
        have HK1 := Lib.hid hk1
        have HK2 := Lib.hid hk2
        have HRL := Lib.hid hrl
        generalize listT vs = lt at *
        clear D2 hk1 hk2 hrl hrd hlb
        have g0 : decide ((120 : Int) < (lt.length : Int)) = false := decide_eq_false (by omega)
        have g0' : decide (120 < lt.length) = false := decide_eq_false (by omega)
        have hEQ : lt.length = 120 → (((⟨lt.toArray⟩ : ByteArray).extract 117 120).toList == ([46, 46, 46] : List UInt8)) = false := fun h => by rw [ext_end h]; simpa using hle h
        have LP : Hid (∀ (W : World) (KW : Chg [] w W), Calls Tryz.prog 14 #[.string ⟨lt.toArray⟩] W fun e w' => ∃ v0 v1 rs, e = .returned (.tuple #[v0, v1, .int .i64 0, .int .i64 0]) ∧ rs.map (·.1) = R ∧ RN w' v0 rs ∧ RI w' v1 [p] ∧ Chg [] w w') := Lib.hid (fun W KW => by
          refine (FS2.out W (HV.out.chg KW).v).mono ?_
          rintro e w7 ⟨⟨base, hbl, v0, v1, rs, rfl, hrs, hN, hT, hI, _⟩, hB⟩
          exact ⟨v0, v1, rs, rfl, hrs, Nodes.rn hN hI, Ints.ri hT, KW.sub (Chg.of_below hB)⟩)
        clear hle FS2
        by_cases h120 : lt.length = 120
        · have g1 : ((lt.length : Int) == 120) = true := by rw [h120]; rfl
          have EQ := hEQ h120
          have p0 : (0 : Int) ≤ (lt.length : Int) - 3 := by omega
          have p1 : (lt.length : Int) - 3 ≤ (lt.length : Int) := by omega
          clear hEQ hb
          go_upto_region 20 with fail
          go_wp2_with fail
          refine (LP.out w6 K6.out).mono ?_
          rintro e w7 ⟨v0, v1, rs, rfl, hrs, N1, T1, k7⟩
          have K7 := Lib.hid k7
          have hlen : rs.length = j + 1 := by
            have h1 := congrArg List.length hrs
            rw [List.length_map, show R.length = vs.length + 1 from HRL, hvl] at h1
            exact h1
          obtain ⟨A2, c2, rfl, g2, q2⟩ := T1
          obtain ⟨A1, c1x, rfl, g1x, q1, i1⟩ := N1
          rw [hlen] at g1x ⊢
          have HRS := Lib.hid hrs
          have HLEN := Lib.hid hlen
          have Q1 := Lib.hid q1
          have l0 : ((([p] : List Int).length : Int) != 1) = false := rfl
          have l1 : (((j + 1 : Nat) : Int) != (j : Int) + 1) = false := by simp
          have l2 : ((j + 1 : Nat) : Int) = (j : Int) + 1 := by omega
          have bj : (j : Int) ≤ 200 := by omega
          clear k7 hrs hlen q2 q1 i1 g2 LP K6
          go_wp2_with fail
          go_loopw [108] (fun i wx => ∃ k : Nat, i = .int .i64 k ∧ k ≤ j ∧ wx = w7) (fun i _ => j - (intOf6 i).toNat)
          case atStart => exact ⟨0, rfl, Nat.zero_le _, rfl⟩
          case round =>
            obtain ⟨k, rfl, hk, rfl⟩ := hrel
            obtain ⟨b1, o1, rfl, y1⟩ := Q1.out (by rw [HLEN.out]; omega)
            by_cases hkj : k < j
            · have e1 : decide ((k : Int) < (j : Int)) = true := decide_eq_true (by omega)
              have e1' : decide (k < j) = true := decide_eq_true hkj
              obtain ⟨x, hx, hx2⟩ := HXV.out k hkj
              obtain ⟨y, hy, hy1, hy2⟩ := HK1.out k _ hx2
              obtain ⟨q, hq, rfl⟩ : ∃ q, rs[k]? = some q ∧ q.1 = y := by
                rw [← show rs.map (·.1) = R from HRS, List.getElem?_map] at hy
                cases h2 : rs[k]? with
                | none => rw [h2] at hy; cases hy
                | some q => rw [h2] at hy; exact ⟨q, rfl, by injection hy⟩
              obtain ⟨a0, a1, a2, a3, a4⟩ := y1 k q hq
              obtain ⟨b, o, rfl, hbl, hcell⟩ := (HSRC.out.grow K7.out).pl (by omega) (by decide)
              have hqx : wr.cell? ⟨b, o + k, none⟩ = some (.int .i64 x) := hcell _ _ (by simp [Heap.nums, hx])
              rw [hy1] at a0
              rw [hy2] at a2
              have hbv := HBD.out _ (List.mem_of_getElem? hx2)
              have z1 : (k : Int) < (j : Int) := by omega
              have z2 : (k : Int) < (j : Int) + 1 := by omega
              clear y1 hx hx2 hy hq hcell a1 a3 a4 hy1 hy2 hbv
              go_wp2_with fail
              go_roundw
              case rel => exact ⟨k + 1, by simp, by omega, trivial⟩
              case measure => simp [intOf6]; omega
            · have e1 : decide ((k : Int) < (j : Int)) = false := decide_eq_false (by omega)
              have e1' : decide (k < j) = false := decide_eq_false hkj
              obtain ⟨y, hy, hy1⟩ := HK2.out
              rw [hvl] at hy
              obtain ⟨q, hq, rfl⟩ : ∃ q, rs[j]? = some q ∧ q.1 = y := by
                rw [← show rs.map (·.1) = R from HRS, List.getElem?_map] at hy
                cases h2 : rs[j]? with
                | none => rw [h2] at hy; cases hy
                | some q => rw [h2] at hy; exact ⟨q, rfl, by injection hy⟩
              obtain ⟨a0, a1, a2, a3, a4⟩ := y1 j q hq
              rw [hy1] at a0
              have z2 : (j : Int) < (j : Int) + 1 := by omega
              clear y1 hy hq a1 a2 a3 a4 hy1
              go_wp2_with fail
              go_ret
              exact ⟨by simp, K7.out⟩
        · have g1 : ((lt.length : Int) == 120) = false := by simpa using (show ¬ (lt.length : Int) = 120 by omega)
          clear hEQ hb
          go_upto_region 20 with fail
          go_wp2_with fail
          refine (LP.out w6 K6.out).mono ?_
          rintro e w7 ⟨v0, v1, rs, rfl, hrs, N1, T1, k7⟩
          have K7 := Lib.hid k7
          have hlen : rs.length = j + 1 := by
            have h1 := congrArg List.length hrs
            rw [List.length_map, show R.length = vs.length + 1 from HRL, hvl] at h1
            exact h1
          obtain ⟨A2, c2, rfl, g2, q2⟩ := T1
          obtain ⟨A1, c1x, rfl, g1x, q1, i1⟩ := N1
          rw [hlen] at g1x ⊢
          have HRS := Lib.hid hrs
          have HLEN := Lib.hid hlen
          have Q1 := Lib.hid q1
          have l0 : ((([p] : List Int).length : Int) != 1) = false := rfl
          have l1 : (((j + 1 : Nat) : Int) != (j : Int) + 1) = false := by simp
          have l2 : ((j + 1 : Nat) : Int) = (j : Int) + 1 := by omega
          have bj : (j : Int) ≤ 200 := by omega
          clear k7 hrs hlen q2 q1 i1 g2 LP K6
          go_wp2_with fail
          go_loopw [108] (fun i wx => ∃ k : Nat, i = .int .i64 k ∧ k ≤ j ∧ wx = w7) (fun i _ => j - (intOf6 i).toNat)
          case atStart => exact ⟨0, rfl, Nat.zero_le _, rfl⟩
          case round =>
            obtain ⟨k, rfl, hk, rfl⟩ := hrel
            obtain ⟨b1, o1, rfl, y1⟩ := Q1.out (by rw [HLEN.out]; omega)
            by_cases hkj : k < j
            · have e1 : decide ((k : Int) < (j : Int)) = true := decide_eq_true (by omega)
              have e1' : decide (k < j) = true := decide_eq_true hkj
              obtain ⟨x, hx, hx2⟩ := HXV.out k hkj
              obtain ⟨y, hy, hy1, hy2⟩ := HK1.out k _ hx2
              obtain ⟨q, hq, rfl⟩ : ∃ q, rs[k]? = some q ∧ q.1 = y := by
                rw [← show rs.map (·.1) = R from HRS, List.getElem?_map] at hy
                cases h2 : rs[k]? with
                | none => rw [h2] at hy; cases hy
                | some q => rw [h2] at hy; exact ⟨q, rfl, by injection hy⟩
              obtain ⟨a0, a1, a2, a3, a4⟩ := y1 k q hq
              obtain ⟨b, o, rfl, hbl, hcell⟩ := (HSRC.out.grow K7.out).pl (by omega) (by decide)
              have hqx : wr.cell? ⟨b, o + k, none⟩ = some (.int .i64 x) := hcell _ _ (by simp [Heap.nums, hx])
              rw [hy1] at a0
              rw [hy2] at a2
              have hbv := HBD.out _ (List.mem_of_getElem? hx2)
              have z1 : (k : Int) < (j : Int) := by omega
              have z2 : (k : Int) < (j : Int) + 1 := by omega
              clear y1 hx hx2 hy hq hcell a1 a3 a4 hy1 hy2 hbv
              go_wp2_with fail
              go_roundw
              case rel => exact ⟨k + 1, by simp, by omega, trivial⟩
              case measure => simp [intOf6]; omega
            · have e1 : decide ((k : Int) < (j : Int)) = false := decide_eq_false (by omega)
              have e1' : decide (k < j) = false := decide_eq_false hkj
              obtain ⟨y, hy, hy1⟩ := HK2.out
              rw [hvl] at hy
              obtain ⟨q, hq, rfl⟩ : ∃ q, rs[j]? = some q ∧ q.1 = y := by
                rw [← show rs.map (·.1) = R from HRS, List.getElem?_map] at hy
                cases h2 : rs[j]? with
                | none => rw [h2] at hy; cases hy
                | some q => rw [h2] at hy; exact ⟨q, rfl, by injection hy⟩
              obtain ⟨a0, a1, a2, a3, a4⟩ := y1 j q hq
              rw [hy1] at a0
              have z2 : (j : Int) < (j : Int) + 1 := by omega
              clear y1 hy hq a1 a2 a3 a4 hy1
              go_wp2_with fail
              go_ret
              exact ⟨by simp, K7.out⟩
theorem walkShowLists (A : Option Addr) (len cap : Nat) (zs : List Int) (w : World) (hL : laidMetH Tryz.prog Rows.showListsRow.laid w) (hz : IsRow .i64 w A len cap zs) (_hy : len * 8 ≤ 140737488351232) :
    Calls Tryz.prog 5 #[.slice A len cap] w fun e w' => e = .returned (.bool true) ∧ Below w.heap.size w w' :=
  (listsw A len cap zs w (varsS_of hL (by kernel_rfl) (by kernel_rfl) (by kernel_rfl)) hz).mono (fun e w' h => ⟨h.1, h.2.below⟩)
end Go.Proofs.YtomhkemdafiphaaGreatDoor.ShowC

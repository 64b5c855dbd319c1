/- The walk of ArenaKeeps: for any rows of words, which one, where and to what, the law answers true; its premises are what the row gives of its arguments. -/
import Derived.Test.YtlaipmakgicnfaaKeeps
import Derived.Test.YtlaipmakgicnfaaRowsRead
import Derived.Test.YtlaipmakgicnfaaArenaShown
import Derived.Test.YtlaipmakgicnfaaAllocAny
namespace Go.Proofs.Ytlaipmakgicnfaa.Ar
open Go Go.RowKit Go.Proofs.Ytlaipmakgicnfaa.Heap Go.Proofs.Ytlaipmakgicnfaa.Word Go.Proofs.Ytlaipmakgicnfaa.Own
attribute [local go_sem] max2_int min2_int max_two min_two
theorem infoWs : (Try.prog.info? 28).map (fun i => (i.zero, i.size, i.bytes)) = some (some (.slice none 0 0), 1, 24) := by kernel_rfl
theorem underWss : Try.prog.underlying 55 = some (.slice 28) := by kernel_rfl
set_option maxHeartbeats 4000000 in
set_option maxRecDepth 100000 in
theorem walkKeeps (A : Option Addr) (c : Nat) (al : List WRow) (wh at' x : Int) (w : World)
    (hs : Src w 1 (.slice A al.length c) al.length (al.flatMap WRow.cells)) (hok : ∀ a ∈ al, a.Ok w) (hlc : al.length ≤ c) (_hc : c ≤ maxLen)
    (hwh : (Lit.int .u8 wh).wf = true) (hat : (Lit.int .u8 at').wf = true) (_hx : (Lit.int .u64 x).wf = true) :
    Calls Try.prog 6 #[.slice A al.length c, .int .u8 wh, .int .u8 at', .int .u64 x] w fun e w' => e = .returned (.bool true) ∧ Below w.heap.size w w' := by
  obtain ⟨wh0, wh1⟩ := wf_u8 hwh
  obtain ⟨at0, at1⟩ := wf_u8 hat
  clear hwh hat
  obtain ⟨q, hmin, q1, q2, _⟩ := min_nat al.length 20 20 rfl
  have ht0 : tot [] = 0 := rfl
  go_enter Try.func6, Try.ntmps6
  go_wp2_with fail
  refine (shown_calls _).mono ?_
  rintro e w0 ⟨rfl, hc0⟩
  go_wp2_with fail
  refine (new_calls 300 _ (by decide) (by decide)).mono ?_
  rintro e w1 ⟨g, bw, bh, rfl, ha, hc1, l1, l2, l3⟩
  have hal := ha.lt
  have s0 := hc0.size
  have s1 := hc1.size
  have hch : Chg [] w w1 := hc0.sub hc1
  have hgw : ∀ b, b ∈ [g, bw, bh] → w.heap.size ≤ b := by
    intro b hb; simp only [List.mem_cons, List.not_mem_nil, or_false] at hb
    rcases hb with rfl | rfl | rfl <;> omega
  have h0 : KS w1.heap.size g bw bh w1 (.slice none 0 0) (.slice none 0 0) [] [] :=
    ⟨ha, by intro j o h; simp at h, World.ownsRow_nil _ _ _ _, World.ownsRow_nil _ _ _ _, rfl, by intro j o r h; simp at h, by intro b h; simp [Value.ownBlock] at h, by intro j r b h; simp at h, by intro i j r s b _ h; simp at h, hal, Nat.le_refl _⟩
  clear ha hc0 hc1 l1 l2 l3 s0 hal
  obtain ⟨base, hbase⟩ : ∃ base, base = w1.heap.size := ⟨_, rfl⟩
  rw [← hbase] at h0
  have hwb : w.heap.size ≤ base := by rw [hbase]; exact hch.size
  have HG := Lib.hid hgw
  have i1 : (0 : Int) ≤ (q : Int) := Int.natCast_nonneg _
  have i2 : (q : Int) ≤ (c : Int) := by omega
  have i3 : (q : Int) ≤ (al.length : Int) := by omega
  go_wp2_with fail
  clear hmin
  go_loopw [46, 12, 13, 14] (fun i p v u wr => ∃ (k : Nat) (P V : Option Addr) (cp cv : Nat) (l : List Thing) (rows : List Value), k ≤ q ∧ i = .int .i64 k ∧ p = .slice P k cp ∧ v = .slice V k cv ∧ u = .int .i64 (tot l : Int) ∧ l.length = k ∧ Hid (tot l ≤ k * 9) ∧ KS base g bw bh wr (.slice P k cp) (.slice V k cv) l rows ∧ w.heap.size ≤ wr.heap.size ∧ Chg [] w wr) (fun i _ _ _ _ => q - (intOf i).toNat)
  case atStart => exact ⟨0, none, none, 0, 0, [], [], Nat.zero_le _, rfl, rfl, rfl, rfl, rfl, Lib.hid (by decide), h0, hch.size, hch⟩
  case round =>
    obtain ⟨k, P, V, cp, cv, l, rows, hk, rfl, rfl, rfl, rfl, hlk, htot, hks, hww, hcr⟩ := hrel
    subst hlk
    by_cases hlt : l.length < q
    · obtain ⟨a, hak⟩ : ∃ a, al[l.length]? = some a := ⟨_, List.getElem?_eq_getElem (by omega)⟩
      obtain ⟨ab, ao, rfl, hab, hcell⟩ := (hs.grow hcr).pl (by omega) (by decide)
      have q0 := WRow.cell hcell hak
      have hoka := hok a (List.mem_of_getElem? hak)
      obtain ⟨m, hmin, m1, m2, _⟩ := min_nat a.len 8 8 rfl
      have hlc2 : a.len ≤ a.cap := by rcases hoka.l with ⟨_, h1, h2, _⟩ | ⟨_, _, h, _⟩ <;> omega
      have hlq : (a.zs.take m).length = m := by
        rcases hoka.l with ⟨_, h1, h2, h3⟩ | ⟨_, _, h, _, h2, _⟩
        · simp [h3]; omega
        · simp; omega
      have hsrc : Src w 1 (.slice a.A m a.cap) m (nums .u64 (a.zs.take m)) := hoka.l.src m m1 a.cap
      have j1 : (0 : Int) ≤ (m : Int) := Int.natCast_nonneg _
      have j2 : (m : Int) ≤ (a.cap : Int) := by omega
      have j3 : (m : Int) ≤ (a.len : Int) := by omega
      generalize a.zs.take m = ys at *
      generalize a.A = aA at *
      generalize a.len = aL at *
      generalize a.cap = aC at *
      clear hcell hoka hak
      have ht' := htot.out
      have hrd : Rd wr [g, bw, bh] (.slice aA m aC) ys := by
        have := rd_old (w0 := w) (xs := ys) (A := aA) (c := aC) (by rw [hlq]; exact hsrc) hcr (by simp) [g, bw, bh] HG.out
        rw [hlq] at this
        exact this
      have ALC := alloc_calls hks.ar ((l.length : Int) % 9 + 1) _ ys hrd (by omega) (by omega) (by omega) (by omega)
      have hsz := hks.bs
      have HKS := Lib.hid hks
      have HCR := Lib.hid hcr
      have hl20 : l.length < 20 := by omega
      have e14 : ((tot (l ++ [((l.length : Int) % 9 + 1, ys)]) : Nat) : Int) = (tot l : Int) + ((m : Int) + 1) := by rw [tot_append, tot_cons, ht0]; simp only; omega
      have tlt : decide (l.length < q) = true := by simpa using hlt
      have hlt' := Lib.hid hlt
      have hk' := Lib.hid hk
      have HYL := Lib.hid hlq
      have hbp : Hid (∀ b, b ∈ ob (.slice P l.length cp) → b ∈ ([] : List Nat) ∨ w.heap.size ≤ b) := Lib.hid (fun b hb => .inr (by have := (hks.pl.lt b (mem_ob.1 hb)).1; omega))
      have hbv : Hid (∀ b, b ∈ ob (.slice V l.length cv) → b ∈ ([] : List Nat) ∨ w.heap.size ≤ b) := Lib.hid (fun b hb => .inr (by have := (hks.wt.lt b (mem_ob.1 hb)).1; omega))
      have nF : ∀ b, base ≤ b → b ∉ [g, bw, bh] := fun b hb hm => by have := hks.far b hm; omega
      clear hcr hww hrd hks htot hlq hk hlt
      go_upto_region 13 with (go_at_call 10; refine ALC.mono ?_; rintro e w4 ⟨rfl, A4, c4⟩)
      have U4 := used_calls A4
      rw [e14] at U4
      have HC4 : Hid (Chg [] w w4) := Lib.hid (HCR.out.trans c4 (fun b hb => .inr (HG.out b hb)))
      have HPL := Lib.hid (own_keep HKS.out.pl c4 (fun b hb => nF b (HKS.out.pl.lt b hb).1))
      have HWT := Lib.hid (own_keep HKS.out.wt c4 (fun b hb => nF b (HKS.out.wt.lt b hb).1))
      have HA4 := Lib.hid A4
      have HC4' := Lib.hid c4
      have hs4 := c4.size
      clear A4 c4 ALC e14 nF
      go_upto_region 16 with (go_at_call 14; refine U4.mono ?_; rintro e wu ⟨rfl, rfl⟩)
      clear U4 tlt
      generalize hpv : (tot l : Int) * 8 + 1 = pv at *
      have HPV := Lib.hid hpv
      clear hpv
      have HV6 : Hid (∀ w5 w6, Chg (ob (.slice P l.length cp)) (w4.alloc (.cells #[.int .u64 pv] 31)) w5 → Chg [] w5 w6 → w6.ownsRow base 28 1 (.slice V l.length cv) l.length rows) := Lib.hid (fun w5 w6 h5 h6 =>
        own_keep (own_keep (HWT.out.alloc _) h5 (fun b hb hm => HKS.out.d1 b (mem_ob.1 hm) hb)) h6 (fun _ _ hm => by cases hm))
      have HSR : Hid (∀ W, Chg [] w W → Src W 1 (.slice aA m aC) m (nums .u64 ys)) := Lib.hid (fun W h => hsrc.grow h)
      go_wp2_with (first
        | (at_builtin; refine app rfl (.tmp 78) (.tmp 80) 28 rfl base 31 _ 1 8 underWs infoW rfl (by decide) (by decide) _ l.length _ rfl (HPL.out.alloc _) _ 1 _ rfl (src_new [.int .u64 pv] 31 1 1 1 w4.heap.size rfl rfl) (by intro u hu; simp at hu; subst hu; rfl) (by simp; omega) (by omega) ?_; intro B5 c5 w5 ho5 hc5 he5; have hz5 := hc5.size)
        | (at_builtin; refine app_lit rfl (.tmp 83) (.tmp 84) 28 rfl 31 (.int .u64 0) 1 8 underWs infoW rfl (by decide) (by decide) rfl _ m (nums .u64 ys) rfl (HSR.out _ ((HC4.out.alloc _).trans hc5 hbp.out)) one_nums (by omega) ?_; intro B6 c6 w6 ho6 hc6; have hz6 := hc6.size)
        | (at_builtin; refine app rfl (.tmp 82) (.tmp 86) 55 rfl base 28 _ 1 24 underWss infoWs rfl (by decide) (by decide) _ l.length _ rfl ((HV6.out _ _ hc5 hc6).alloc _) _ 1 _ rfl (src_new [.slice B6 m c6] 28 1 1 1 w6.heap.size rfl rfl) (by intro u hu; simp at hu; subst hu; rfl) (by simp at hz5; simp; omega) (by omega) ?_; intro B7 c7 w7 ho7 hc7 he7))
      obtain ⟨KF, kz1, kz2⟩ := KS.step HKS.out ys HA4.out HC4'.out ((Chg.refl [] w4).alloc _) (by rw [HPV.out]; exact ho5) hc5 he5 ⟨B6, c6, by rw [HYL.out]⟩ (by rw [HYL.out]; exact ho6) hc6 ((Chg.refl [] w6).alloc _) ho7 hc7 he7
      have HKF := Lib.hid KF
      have HCF : Hid (Chg [] w w7) := Lib.hid (((((HC4.out.alloc _).trans hc5 hbp.out).same hc6).alloc _).trans hc7 hbv.out)
      clear KF ho5 hc5 he5 ho6 hc6 ho7 hc7 he7 HV6 HSR
      go_roundw
      case rel => exact ⟨l.length + 1, B5, B7, c5, c7, l ++ [((l.length : Int) % 9 + 1, ys)], rows ++ [.slice B6 m c6], by have := hlt'.out; omega, by go_num, rfl, rfl, by rw [tot_append, tot_cons, ht0, HYL.out]; simp, by simp, Lib.hid (by rw [tot_append, tot_cons, ht0, HYL.out]; omega), HKF.out, HCF.out.size, HCF.out⟩
      case measure => have := hlt'.out; simp [intOf]; omega
    · obtain rfl : l.length = q := by omega
      clear hs hok
      have tq : decide (l.length < l.length) = false := by simp
      go_upto_if 91 with fail
      have HKS := Lib.hid hks
      have HCR := Lib.hid hcr
      have HBW : Hid (w.heap.size ≤ base) := Lib.hid hwb
      have ht' := htot.out
      clear hks hcr htot tq hlt hk i1 i2 i3 hch hwb hww
      go_cut [] (fun wx => ∃ (l' : List Thing) (rows' : List Value), l'.length = l.length ∧ tot l' ≤ 300 ∧ KS base g bw bh wx (.slice P l.length cp) (.slice V l.length cv) l' rows' ∧ Chg [] w wx)
      case first =>
        by_cases hn : 0 < l.length
        case neg =>
          have t1 : decide (0 < l.length) = false := decide_eq_false hn
          go_wp2_with fail
          go_meet
          exact ⟨l, rows, rfl, by omega, HKS.out, HCR.out⟩
        obtain ⟨k0, hk0, hk1⟩ : ∃ k0 : Nat, wh % (l.length : Int) = (k0 : Int) ∧ k0 < l.length := ⟨(wh % (l.length : Int)).toNat, by have := Int.emod_nonneg wh (show (l.length : Int) ≠ 0 by omega); omega, by have := Int.emod_nonneg wh (show (l.length : Int) ≠ 0 by omega); have := Int.emod_lt_of_pos wh (show (0 : Int) < l.length by omega); omega⟩
        obtain ⟨i0, hi0, hi1⟩ : ∃ i0 : Nat, at' % 9 = (i0 : Int) ∧ i0 < 9 := ⟨(at' % 9).toNat, by omega, by omega⟩
        obtain ⟨o, ho⟩ : ∃ o, l[k0]? = some o := ⟨_, List.getElem?_eq_getElem hk1⟩
        obtain ⟨r, hr⟩ : ∃ r, rows[k0]? = some r := ⟨_, List.getElem?_eq_getElem (by have := HKS.out.rl; omega)⟩
        obtain ⟨rA, rc, rfl, hro⟩ := HKS.out.rw k0 o r ho hr
        have SA := setA_at l (by omega) k0 o ho i0 x
        have SC := set_calls HKS.out.ar (placeAt l k0) i0 x (placeAt_wf l (by omega) k0).1 (placeAt_wf l (by omega) k0).2
        rw [SA] at SC
        obtain ⟨gp, _, hP, _, _, _, _, hpc⟩ := own_at HKS.out.pl hn
        simp only [Value.slice.injEq] at hP
        obtain ⟨rfl, _, rfl⟩ := hP
        have p0 := (hpc k0 (.int .u64 (placeAt l k0)) (by have := placesA_get l k0 hk1; simp [nums, this])).1
        have nF : ∀ b, base ≤ b → b ∉ [bw] := fun b hb hm => by have := HKS.out.far bw (by simp); simp at hm; omega
        obtain ⟨gv, _, hV, gvb, _, _, _, hvc⟩ := own_at HKS.out.wt hn
        simp only [Value.slice.injEq] at hV
        obtain ⟨rfl, _, rfl⟩ := hV
        have v0 := (hvc k0 _ hr).1
        have b0 : (0 : Int) ≤ (k0 : Int) := Int.natCast_nonneg _
        have b1 : (k0 : Int) < (l.length : Int) := by omega
        have b2 : (0 : Int) ≤ (i0 : Int) := Int.natCast_nonneg _
        clear hpc hvc SA
        by_cases hio : i0 < o.2.length
        · rw [if_pos hio] at SC
          have t2 : decide (i0 < o.2.length) = true := decide_eq_true hio
          have hio' := Lib.hid hio
          have gb0 : ∃ gb, rA = some ⟨gb, 0, none⟩ := by
            obtain ⟨gb, cc, e, _⟩ := own_at hro (by omega)
            simp only [Value.slice.injEq] at e
            exact ⟨gb, e.1⟩
          obtain ⟨gb, rfl⟩ := gb0
          have hst : ∀ W, Chg [bw] wr W → (∃ z, W.cell? ⟨gb, i0, none⟩ = some z) ∧ W.frozen? ⟨gb, i0, none⟩ = false := fun W cW => by
            obtain ⟨g', c', e, _, _, _, _, hc'⟩ := own_at (own_keep hro cW (fun b hb => nF b (hro.lt b hb).1)) (by omega)
            simp only [Value.slice.injEq, Option.some.injEq, Addr.mk.injEq] at e
            obtain ⟨⟨rfl, _⟩, _⟩ := e
            obtain ⟨u, hu⟩ : ∃ u, (nums IntKind.u64 o.2)[i0]? = some u := ⟨_, List.getElem?_eq_getElem (by simpa [nums] using hio)⟩
            exact ⟨⟨u, (hc' i0 u hu).1⟩, (hc' i0 u hu).2⟩
          have HST := Lib.hid hst
          have SET := fun (W' : World) (A : IsAr W' g bw bh 300 (l.set k0 (o.1, o.2.set i0 x))) (c' : Chg [bw] wr W') => KS.set HKS.out k0 o ho i0 x gb rc hr A c'
          have HSET := Lib.hid SET
          have HBG : Hid (bw ≠ gv ∧ base ≤ gb ∧ w.heap.size ≤ base) := Lib.hid ⟨fun h => by have := nF gv gvb; simp at this; exact this h.symm, (hro.lt gb rfl).1, HBW.out⟩
          have HL : Hid (tot (l.set k0 (o.1, o.2.set i0 x)) ≤ 300) := Lib.hid (by
            have := (setT_tot l (tot (l.take k0)) i0 x)
            rw [setT_at l k0 o ho] at this
            omega)
          have HNF := Lib.hid nF
          clear SET hst nF hro hr ho ht' hio gvb
          go_upto_region 22 with (go_at_call 12; refine SC.mono ?_; rintro e w4 ⟨rfl, A4, c4⟩)
          have v1 : w4.cell? ⟨gv, k0, none⟩ = some (.slice (some ⟨gb, 0, none⟩) o.2.length rc) := c4.cell v0 (fun hm => HBG.out.1 (by simp at hm; exact hm.symm))
          obtain ⟨⟨z, hz⟩, hfz⟩ := HST.out w4 c4
          have HK2 := Lib.hid (HSET.out w4 A4 c4)
          have HC4 := Lib.hid c4
          have b3 : (i0 : Int) < (o.2.length : Int) := by have := hio'.out; omega
          clear A4 c4 SC p0 v0
          go_wp2_with fail
          go_meet
          exact ⟨_, rows, by simp, HL.out, HK2.out, (HCR.out.trans HC4.out (fun b hb => .inr (by have := HG.out b (by simp at hb; subst hb; simp); omega))).set ⟨gb, i0, none⟩ _ (.inr (by have := HBG.out; simp; omega))⟩
        · rw [if_neg hio] at SC
          have t2 : decide (i0 < o.2.length) = false := decide_eq_false hio
          have hgvn : bw ≠ gv := fun h => by have := nF gv gvb; simp at this; exact this h.symm
          have HNF := Lib.hid nF
          have HL : Hid (tot l ≤ 300) := Lib.hid (by omega)
          clear nF hro hr ho ht' hio gvb
          go_upto_region 22 with (go_at_call 12; refine SC.mono ?_; rintro e w4 ⟨rfl, A4, c4⟩)
          have v1 : w4.cell? ⟨gv, k0, none⟩ = some (.slice rA o.2.length rc) := c4.cell v0 (fun hm => hgvn (by simp at hm; exact hm.symm))
          have HA4 := Lib.hid A4
          have HC4 := Lib.hid c4
          clear A4 c4 SC p0 v0
          go_wp2_with fail
          go_meet
          exact ⟨l, rows, rfl, HL.out, HKS.out.same HA4.out HC4.out, HCR.out.trans HC4.out (fun b hb => .inr (HG.out b (by simp at hb; subst hb; simp)))⟩
      case rest =>
        obtain ⟨l', rows', hln, htl, hks, hcr⟩ := hcut
        have HKS2 := Lib.hid hks
        have HCR2 := Lib.hid hcr
        have hln' := Lib.hid hln
        obtain ⟨n, hn⟩ : ∃ n, l.length = n := ⟨_, rfl⟩
        rw [hn] at HKS2 hln'
        have hn20 : n ≤ 20 := by omega
        rw [hn]
        clear hks hcr hln HKS HCR ht' hn HBW HG
        go_wp2_with fail
        go_loopw [129] (fun i wx => ∃ k : Nat, k ≤ n ∧ i = .int .i64 k ∧ KS base g bw bh wx (.slice P n cp) (.slice V n cv) l' rows' ∧ Chg [] w wx) (fun i _ => n - (intOf i).toNat)
        case atStart => exact ⟨0, Nat.zero_le _, rfl, HKS2.out, HCR2.out⟩
        case round =>
          obtain ⟨k, hk, rfl, hks, hcr⟩ := hrel
          by_cases hlt : k < n
          case neg =>
            have HC := Lib.hid hcr
            clear hks hcr
            go_wp2_with fail
            go_ret
            exact ⟨rfl, HC.out.below⟩
          have hnl := hln'.out
          obtain ⟨o, ho⟩ : ∃ o, l'[k]? = some o := ⟨_, List.getElem?_eq_getElem (by omega)⟩
          obtain ⟨r, hr⟩ : ∃ r, rows'[k]? = some r := ⟨_, List.getElem?_eq_getElem (by have := hks.rl; omega)⟩
          obtain ⟨rA, rc, rfl, hro⟩ := hks.rw k o r ho hr
          have hpl := hks.pl
          have hwt := hks.wt
          rw [hnl] at hpl hwt
          obtain ⟨gp, _, hP, _, _, _, _, hpc⟩ := own_at hpl (by omega)
          simp only [Value.slice.injEq] at hP
          obtain ⟨rfl, _, rfl⟩ := hP
          have p0 := (hpc k (.int .u64 (placeAt l' k)) (by have := placesA_get l' k (by omega); simp [nums, this])).1
          obtain ⟨gv, _, hV, _, _, _, _, hvc⟩ := own_at hwt (by omega)
          simp only [Value.slice.injEq] at hV
          obtain ⟨rfl, _, rfl⟩ := hV
          have v0 := (hvc k _ hr).1
          have hwf := placeAt_wf l' htl k
          have KK := fun n => kind_calls (hks.ar.drewN n) (placeAt l' k) hwf.1 hwf.2
          have LL := fun n => len_calls (hks.ar.drewN n) (placeAt l' k) hwf.1 hwf.2
          have GG := fun n (j : Nat) (u : Int) (hu : o.2[j]? = some u) => get_calls (hks.ar.drewN n) (placeAt l' k) (j : Int) hwf.1 hwf.2
          have GE := fun (j : Nat) (u : Int) (hu : o.2[j]? = some u) => getA_at l' htl k o ho j u hu
          rw [kindA_at l' htl k o ho, hks.kd k o ho] at KK
          rw [lenA_at l' htl k o ho] at LL
          have GG' : Hid (∀ n (j : Nat) (u : Int), o.2[j]? = some u → Calls Try.prog 13 #[.pointer (some ⟨g, 0, none⟩), .int .u64 (placeAt l' k), .int .i64 (j : Int)] (wr.drewN n) fun e w' => e = .returned (.tuple #[.int .u64 u, .int .i64 0]) ∧ wr.drewN n = w') := Lib.hid (fun n j u hu => by
            have := GG n j u hu
            rw [GE j u hu] at this
            exact this)
          have HRO := Lib.hid (fun n => own_keep hro ((Chg.refl [] wr).draw n) (fun _ _ hm => by cases hm))
          have HK3 := Lib.hid (fun n => hks.keep ((Chg.refl [] wr).draw n))
          have HC3 := Lib.hid (fun n => hcr.draw n)
          have tlt : decide (k < n) = true := decide_eq_true hlt
          have b0 : (0 : Int) ≤ (k : Int) := Int.natCast_nonneg _
          have b1 : (k : Int) < (n : Int) := by omega
          have hlt' := Lib.hid hlt
          have hk' := Lib.hid hk
          clear hks hcr hro hpl hwt hpc hvc hr ho GG GE hnl hwf hlt hk
          generalize placeAt l' k = pk at *
          generalize o.2 = ys at *
          obtain ⟨m, hm⟩ : ∃ m, ys.length = m := ⟨_, rfl⟩
          rw [hm] at LL v0 HRO
          have HM := Lib.hid hm
          clear hm
          go_upto_region 29 with fail
          go_quiet ((first
            | (go_at_call 15; exact Calls.quiet_of_same ((KK _).mono fun _ _ h => ⟨h.1, h.2.symm⟩))
            | (go_at_call 16; exact Calls.quiet_of_same ((LL _).mono fun _ _ h => ⟨h.1, h.2.symm⟩))))
          clear tlt
          go_wp2_with fail
          have HRO9 := Lib.hid (HRO.out nq)
          have HK9 := Lib.hid (HK3.out nq)
          have HC9 := Lib.hid (HC3.out nq)
          have GG9 := Lib.hid (GG'.out nq)
          clear HRO HK3 HC3 GG' KK LL p0 v0
          generalize wr.drewN nq = W9 at *
          go_loop [157] (fun i => ∃ j : Nat, j ≤ m ∧ i = .int .i64 j) (fun i => m - (intOf i).toNat)
          case atStart => exact ⟨0, Nat.zero_le _, rfl⟩
          case round =>
            obtain ⟨j, hj, rfl⟩ := hrel
            by_cases hjm : j < m
            · obtain ⟨gb, cc, e, _, _, hmc, hcm, hcell⟩ := own_at HRO9.out (by omega)
              simp only [Value.slice.injEq] at e
              obtain ⟨rfl, _, rfl⟩ := e
              obtain ⟨u, hu⟩ : ∃ u, ys[j]? = some u := ⟨_, List.getElem?_eq_getElem (by have := HM.out; omega)⟩
              have hz := (hcell j (.int .u64 u) (by simp [nums, hu])).1
              have GC := GG9.out j u hu
              have jb : (j : Int) < 9223372036854775807 := by unfold maxLen at hcm; omega
              clear hcell hu
              go_wp2_with (go_at_call 13; refine GC.mono ?_; rintro e w9 ⟨rfl, rfl⟩)
              go_round
              case rel => exact ⟨j + 1, by omega, by go_num⟩
              case measure => simp [intOf]; omega
            · go_wp2_with fail
              go_roundw
              case rel => exact ⟨k + 1, by have := hlt'.out; omega, by go_num, HK9.out, HC9.out⟩
              case measure => have := hlt'.out; simp [intOf]; omega
end Go.Proofs.Ytlaipmakgicnfaa.Ar

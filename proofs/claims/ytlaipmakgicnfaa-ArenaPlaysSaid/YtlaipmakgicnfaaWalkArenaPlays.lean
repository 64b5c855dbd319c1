/- The walk of ArenaPlays: for any size and any acts the law answers true; its premises are what the row gives of its arguments. -/
import Derived.Test.YtlaipmakgicnfaaRefK
import Derived.Test.YtlaipmakgicnfaaRefS
import Derived.Test.YtlaipmakgicnfaaFew
import Derived.Test.YtlaipmakgicnfaaArenaSet
import Derived.Test.YtlaipmakgicnfaaArenaShown
import Derived.Outline
namespace Go.Proofs.Ytlaipmakgicnfaa.Rf
open Go Go.RowKit Go.Proofs.Ytlaipmakgicnfaa.Heap Go.Proofs.Ytlaipmakgicnfaa.Word Go.Proofs.Ytlaipmakgicnfaa.Own Go.Proofs.Ytlaipmakgicnfaa.Ar
/-- both arenas hold the same things; the reference's lies in R alone -/
def StP (ga bw bh gr N : Nat) (R : Nat → Prop) (l : List Thing) (W : World) : Prop := ∃ es, es.map RE.th = l ∧ IsAr W ga bw bh N l ∧ IsRf W R gr N es
theorem IsRow.cut {k : IntKind} {w : World} {a : Option Addr} {len cap : Nat} {zs : List Int} (h : IsRow k w a len cap zs) (m : Nat) (hm : m ≤ len) : IsRow k w a m cap zs := by
  rcases h with ⟨h1, h2, h3, h4⟩ | ⟨x, h1, h2, h3, h4⟩
  · exact .inl ⟨h1, by omega, h3, h4⟩
  · exact .inr ⟨x, h1, by omega, h3, h4⟩
theorem IsRow.wf {w : World} {a : Option Addr} {len cap : Nat} {zs : List Int} (h : IsRow .u64 w a len cap zs) : (zs.take len).length = len := by
  rcases h with ⟨_, rfl, _, rfl⟩ | ⟨_, _, h2, _, h4, _⟩
  · rfl
  · simp; omega
theorem cutAct_ok {w : World} {a : AAct} (h : a.Ok w) : (cutAct a).Ok w := ⟨h.kind, h.n, h.i, h.w, h.x, IsRow.cut h.l _ (Nat.min_le_left _ _)⟩
/-- the place of a thing, as the law picks it -/
theorem pick_ix (n : Int) (m : Nat) (hm : 0 < m) : ∃ j : Nat, (n.tmod m + m) % m = (j : Int) ∧ j < m := by
  have h1 : -(m : Int) < n.tmod m ∧ n.tmod m < m := tmod_M n (by omega)
  have h2 : 0 ≤ (n.tmod m + m) % (m : Int) := Int.emod_nonneg _ (by omega)
  have h3 : (n.tmod m + m) % (m : Int) < m := Int.emod_lt_of_pos _ (by omega)
  exact ⟨((n.tmod m + m) % (m : Int)).toNat, by omega, by omega⟩
set_option maxHeartbeats 4000000 in
set_option maxRecDepth 100000 in
theorem walkPlays (n : Int) (A : Option Addr) (c : Nat) (al : List AAct) (w : World) (hn : (Lit.int .i64 n).wf = true)
    (hs : Src w 6 (.slice A al.length c) al.length (al.flatMap AAct.cells)) (hok : ∀ a ∈ al, a.Ok w) (hlc : al.length ≤ c) (hc : c ≤ maxLen) :
    Calls Try.prog 5 #[.int .i64 n, .slice A al.length c] w fun e w' => e = .returned (.bool true) ∧ Below w.heap.size w w' := by
  by_cases hsz : 1 ≤ n ∧ n ≤ 65536
  · obtain ⟨N, rfl⟩ : ∃ N : Nat, n = N := ⟨n.toNat, by omega⟩
    have N1 : 1 ≤ N := by omega
    have N2 : N ≤ 65536 := by omega
    clear hsz hn
    go_enter Try.func5, Try.ntmps5
    go_wp2_with fail
    refine (shown_calls _).mono ?_
    rintro e w0 ⟨rfl, hc0⟩
    go_wp2_with fail
    refine (new_calls N _ N1 N2).mono ?_
    rintro e w1 ⟨ga, bw, bh, rfl, ha, hc1, l1, l2, l3⟩
    go_wp2_with fail
    refine (rnew_calls N _ N1 N2).mono ?_
    rintro e w2 ⟨gr, rfl, hrf, hc2, l4, l5⟩
    go_wp2_with fail
    have HS := hs.grow ((hc0.same hc1).same hc2)
    have HK : ∀ a ∈ al, a.Ok w2 := fun a h => (hok a h).past ((hc0.same hc1).same hc2) (by simp)
    refine (few_calls A c al _ HS HK hlc hc).mono ?_
    rintro e w3 ⟨Bf, kf, rfl, hor, hc3⟩
    have hC : Chg [] w w3 := ((hc0.same hc1).same hc2).same hc3
    have hal := ha.lt
    have s1 := hc0.size
    have s2 := hc1.size
    have s3 := hc2.size
    have s4 := hc3.size
    have hact : ∀ x ∈ (al.take 80).map cutAct, x.Ok w := fun x hx => by
      obtain ⟨a, h1, rfl⟩ := List.mem_map.1 hx
      exact cutAct_ok (hok a (List.mem_of_mem_take h1))
    have hql : ((al.take 80).map cutAct).length = (al.take 80).length := by simp
    have hq80 : (al.take 80).length ≤ 80 := by simp; omega
    generalize (al.take 80).map cutAct = L at *
    generalize (al.take 80).length = q at *
    have nf : ∀ b, (Value.slice Bf q kf).ownBlock = some b → w2.heap.size ≤ b ∧ b < w3.heap.size := fun b hb => hor.lt b hb
    have ha3 := (ha.sub hc2).sub hc3
    have hrf3 : ∀ R : Nat → Prop, R gr → IsRf w3 R gr N [] := fun R hR => (hrf R hR).sub hc3
    clear hrf ha HS HK hs hok
    obtain ⟨RW, hRW⟩ : ∃ RW : Nat → Prop, RW = fun b => w.heap.size ≤ b ∧ (Value.slice Bf q kf).ownBlock ≠ some b := ⟨_, rfl⟩
    have RW1 : ∀ b, RW b → w.heap.size ≤ b := fun b hb => by rw [hRW] at hb; exact hb.1
    have RW2 : ∀ b, (Value.slice Bf q kf).ownBlock = some b → ¬ RW b := fun b hb hr => by rw [hRW] at hr; exact hr.2 hb
    have RW3 : ∀ b, w3.heap.size ≤ b → RW b := fun b hb => by
      rw [hRW]
      exact ⟨by omega, fun hm => by have := nf b hm; omega⟩
    have RW4 : ∀ b, w.heap.size ≤ b → b < w2.heap.size → RW b := fun b hb hb2 => by
      rw [hRW]
      exact ⟨hb, fun hm => by have := nf b hm; omega⟩
    clear hRW
    go_wp2_with fail
    go_loopw [49] (fun i wr => ∃ (k : Nat) (l : List Thing), k ≤ q ∧ i = .int .i64 k ∧ StP ga bw bh gr N (fun b => (RW b ∧ b ∉ [ga, bw, bh]) ∧ b < wr.heap.size) l wr ∧ ChgR RW w3 wr) (fun i _ => q - (intOf i).toNat)
    case atStart =>
      exact ⟨0, [], Nat.zero_le _, rfl, ⟨[], rfl, ha3, hrf3 _ ⟨⟨RW4 _ (by omega) l5, fun hm => by have := hal gr hm; omega⟩, by omega⟩⟩, ChgR.refl _ _⟩
    case round =>
      obtain ⟨k, l, hk, rfl, ⟨es, hel, hIA, hIR⟩, hcr⟩ := hrel
      have hB : Below w.heap.size w wr := ChgR.below hC.below hcr RW1 (Nat.le_refl _)
      have hrs := hcr.size
      by_cases hlt : k < q
      · obtain ⟨x, hx⟩ : ∃ x, L[k]? = some x := ⟨_, List.getElem?_eq_getElem (by omega)⟩
        have hxo := hact x (List.mem_of_getElem? hx)
        have horR := own_keepR hor hcr RW2
        obtain ⟨ab, ao, rfl, hab, hcell⟩ := (Src.own horR).pl (by omega) (by decide)
        have cell : ∀ (j : Nat) (u : Value), x.cells[j]? = some u → wr.cell? ⟨ab, ao + k * 6 + j, none⟩ = some u := by
          intro j u hu
          have hj : j < 6 := (List.getElem?_eq_some_iff.1 hu).1
          rw [Nat.add_assoc]
          exact hcell _ _ (by rw [flat_get AAct.cells 6 (fun _ => rfl) L k j x hx hj]; exact hu)
        have q0 := cell 0 _ rfl
        rw [Nat.add_zero] at q0
        have q1 := cell 1 _ rfl
        have q2 := cell 2 _ rfl
        have q3 := cell 3 _ rfl
        have q4 := cell 4 _ rfl
        have q5 := cell 5 _ rfl
        clear cell hcell
        obtain ⟨⟨y0, y1⟩, y2, y3, ⟨y4, y5⟩, y6, y7⟩ := hxo
        have hzl := IsRow.wf y7
        have hsx : Src w 1 (.slice x.A x.len x.cap) x.len (nums .u64 (x.zs.take x.len)) := IsRow.src y7 x.len (Nat.le_refl _) x.cap
        have hkd4 : 0 ≤ x.kind % 4 ∧ x.kind % 4 < 4 := by omega
        generalize hzs : x.zs.take x.len = zs at *
        have hw3 : w.heap.size ≤ w3.heap.size := hC.size
        have eln := es_len hIR
        -- the world behind the variable
        obtain ⟨W5, hW5⟩ : ∃ W5, W5 = wr.alloc (.cells #[.int .u8 x.kind, .int .i64 x.n, .int .i64 x.i, .int .u64 x.w, .int .u64 x.x, .slice x.A x.len x.cap] 37) := ⟨_, rfl⟩
        have C5 : Chg [] wr W5 := by rw [hW5]; exact (Chg.refl _ _).alloc _
        have Z5 : W5.heap.size = wr.heap.size + 1 := by rw [hW5]; simp
        have X5 : W5.heap[wr.heap.size]? = some (.cells #[.int .u8 x.kind, .int .i64 x.n, .int .i64 x.i, .int .u64 x.w, .int .u64 x.x, .slice x.A x.len x.cap] 37 (0, 0)) := by rw [hW5]; exact blk_new rfl
        -- what may have changed in this round
        obtain ⟨R5, hR5⟩ : ∃ R5 : Nat → Prop, R5 = fun b => (RW b ∧ b ∉ [ga, bw, bh]) ∧ b ≠ wr.heap.size := ⟨_, rfl⟩
        have I5 : IsRf W5 R5 gr N es := (hIR.sub C5).mono (fun b hb => by rw [hR5]; exact ⟨hb.1, by have := hb.2; omega⟩)
        have A5 : IsAr W5 ga bw bh N l := hIA.sub C5
        have N5 : ∀ b, W5.heap.size ≤ b → R5 b := fun b hb => by
          rw [hR5]
          exact ⟨⟨RW3 b (by omega), fun hm => by have := hal b hm; omega⟩, by omega⟩
        have RG : ∀ b, b ∈ [ga, bw, bh] → ¬ R5 b := fun b hb hr => by rw [hR5] at hr; exact hr.1.2 hb
        have RX : ¬ R5 wr.heap.size := fun hr => by rw [hR5] at hr; exact hr.2 rfl
        have RL : ∀ b, R5 b → RW b ∧ b ∉ [ga, bw, bh] := fun b hb => by rw [hR5] at hb; exact hb.1
        have XG : wr.heap.size ∉ [ga, bw, bh] := fun hm => by have := hal _ hm; omega
        have GL : ∀ b, b ∈ [ga, bw, bh] → RW b := fun b hb => RW4 b (by simp only [List.mem_cons, List.not_mem_nil, or_false] at hb; rcases hb with rfl | rfl | rfl <;> omega) (by have := hal b hb; omega)
        clear hR5
        subst hel
        obtain ⟨TA, tc, r0, r1, r2, hlc5, hcm5, hrcell⟩ := rf_cell I5
        generalize hpx : wr.heap.size = px at *
        have x0 : W5.cell? ⟨px, 0, none⟩ = some (.int .u8 x.kind) := by rw [blk_cell X5]; rfl
        have x1 : W5.cell? ⟨px, 1, none⟩ = some (.int .i64 x.n) := by rw [blk_cell X5]; rfl
        have x2 : W5.cell? ⟨px, 2, none⟩ = some (.int .i64 x.i) := by rw [blk_cell X5]; rfl
        have x3 : W5.cell? ⟨px, 3, none⟩ = some (.int .u64 x.w) := by rw [blk_cell X5]; rfl
        have x4 : W5.cell? ⟨px, 4, none⟩ = some (.int .u64 x.x) := by rw [blk_cell X5]; rfl
        have x5 : W5.cell? ⟨px, 5, none⟩ = some (.slice x.A x.len x.cap) := by rw [blk_cell X5]; rfl
        have CR5 := Lib.hid (hcr.same (ChgR.of0 C5))
        have BR5 := Lib.hid hB
        have OR5 := Lib.hid hor
        clear horR hor hcr hB nf hx hact ha3 hrf3 hIA hIR hrs hc0 hc1 hc2 hc3 s1 s2 s3 s4 l1 l2 l3 l4 l5 hzs
        go_upto_region 11 with fail
        rw [← hW5]
        have HW5 := Lib.hid hW5
        clear hW5
        have BW5 : Below w.heap.size w W5 := ChgR.below hC.below CR5.out RW1 (Nat.le_refl _)
        by_cases hk1 : x.kind % 4 ≤ 1
        case pos =>
          have t1 : decide (x.kind % 4 > 1) = false := by simp; omega
          have hav : 0 ≤ x.w ∧ x.w < 18446744073709551616 := ⟨y4, y5⟩
          clear y4 y5 hrcell
          generalize x.w = av at *
          go_upto_region 14 with fail
          clear x3 q3
          by_cases k0 : x.kind % 4 = 0
          case pos =>
            have u0 : (x.kind % 4 == 0) = true := by simp [k0]
            have CB : Chg [] w W5 := Chg.of_below BW5
            have AL := alloc_any A5 x.n _ zs (rd_old (hzl.symm ▸ hsx) CB (by simp) [ga, bw, bh] (fun b hb => RW1 b (GL b hb)))
            rw [hzl] at AL
            clear k0 hk1 r0 r1 r2
            go_upto_region 17 with fail
            go_wp2_with fail
            refine AL.mono ?_
            rintro e w6 ⟨rfl, A6, c6⟩
            have s6 := c6.size
            have I6 := I5.keep c6 RG
            have X6 := c6.at X5 XG
            have CR6 := Lib.hid (CR5.out.same (ChgR.of c6 GL))
            have BW6 := ChgR.below hC.below CR6.out RW1 (Nat.le_refl _)
            have RAL := ralloc_any I6 x.n x.A x.cap zs (hzl.symm ▸ hsx.grow (Chg.of_below BW6)) (fun b hb => N5 b (by omega))
            rw [hzl] at RAL
            have z1 : w6.cell? ⟨px, 1, none⟩ = some (.int .i64 x.n) := by rw [blk_cell X6]; rfl
            have z5 : w6.cell? ⟨px, 5, none⟩ = some (.slice x.A x.len x.cap) := by rw [blk_cell X6]; rfl
            clear AL x0 x1 x2 x4 x5 X5 I5 A5 CR5 BW5 BR5 OR5
            go_wp2_with fail
            refine RAL.mono ?_
            rintro e WF ⟨rfl, ⟨esf, hesf, IF⟩, c7⟩
            have AF := IsAr.keepR A6 c7 (RG _ (by simp)) (RG _ (by simp)) (RG _ (by simp))
            rw [← hesf] at AF
            have XF := c7.at X6 RX
            have CF := Lib.hid (CR6.out.same (c7.mono fun b hb => (RL b hb).1))
            clear hesf z1 z5 X6 I6 A6 c6 c7 RAL s6 BW6 CR6
            obtain ⟨TA2, tc2, s0, s1, s2, _, _, _⟩ := rf_cell IF
            have y2 : WF.cell? ⟨px, 2, none⟩ = some (.int .i64 x.i) := by rw [blk_cell XF]; rfl
            have G1 := get_calls AF av x.i hav.1 hav.2
            have G2 := rget_calls IF av hav.1 hav.2 x.i
            have K1 := fun n => kind_calls (AF.drewN n) av hav.1 hav.2
            have K2 := fun n => rkind_calls (IF.sub ((Chg.refl _ _).draw n)) av hav.1 hav.2
            have L1 := fun n => len_calls (AF.drewN n) av hav.1 hav.2
            have L2 := fun n => rlen_calls (IF.sub ((Chg.refl _ _).draw n)) av hav.1 hav.2
            have U1 := fun n => used_calls (AF.drewN n)
            have U2 := fun n => size_calls (AF.drewN n)
            have FIN : ∀ n, StP ga bw bh gr N (fun b => (RW b ∧ b ∉ [ga, bw, bh]) ∧ b < (WF.drewN n).heap.size) (esf.map RE.th) (WF.drewN n) ∧ ChgR RW w3 (WF.drewN n) := fun n =>
              ⟨⟨esf, rfl, AF.drewN n, (IF.sub ((Chg.refl _ _).draw n)).shrink.mono (fun b hb => ⟨RL b hb.1, hb.2⟩)⟩, CF.out.drawn n⟩
            have HFIN := Lib.hid FIN
            clear FIN CF
            go_upto_region 23 with fail
            go_wp2_with (first
              | (go_at_call 13; refine G1.mono ?_; rintro e w8 ⟨rfl, rfl⟩)
              | (go_at_call 21; refine G2.mono ?_; rintro e w8 ⟨rfl, rfl⟩))
            go_quiet ((first
              | (go_at_call 15; exact Calls.quiet_of_same ((K1 _).mono fun _ _ h => ⟨h.1, h.2.symm⟩))
              | (go_at_call 22; exact Calls.quiet_of_same ((K2 _).mono fun _ _ h => ⟨h.1, h.2.symm⟩))
              | (go_at_call 16; exact Calls.quiet_of_same ((L1 _).mono fun _ _ h => ⟨h.1, h.2.symm⟩))
              | (go_at_call 23; exact Calls.quiet_of_same ((L2 _).mono fun _ _ h => ⟨h.1, h.2.symm⟩))
              | (go_at_call 14; exact Calls.quiet_of_same ((U1 _).mono fun _ _ h => ⟨h.1, h.2.symm⟩))
              | (go_at_call 24; exact Calls.quiet_of_same ((U2 _).mono fun _ _ h => ⟨h.1, h.2.symm⟩))))
            go_wp2_with fail
            go_roundw
            case rel => exact ⟨k + 1, _, by omega, by go_num, (HFIN.out _).1, (HFIN.out _).2⟩
            case measure => simp [intOf]; omega
          case neg =>
            have u0 : (x.kind % 4 == 0) = false := by simpa using k0
            have u1 : (x.kind % 4 == 1) = true := by simp; omega
            have KS : ∀ W, Chg [bw] W5 W → W.cell? ⟨px, 2, none⟩ = some (.int .i64 x.i) ∧ W.cell? ⟨px, 4, none⟩ = some (.int .u64 x.x) ∧ W.heap[px]? = W5.heap[px]? ∧ IsRf W R5 gr N es := fun W c =>
              have hb : px ∉ [bw] := fun hm => XG (by simp at hm; subst hm; simp)
              ⟨c.cell x2 hb, c.cell x4 hb, c.block px (by omega) hb, I5.keep c (fun b hb => RG b (by simp at hb; subst hb; simp))⟩
            have HKS := Lib.hid KS
            have GBW := GL bw (by simp)
            clear KS k0 hk1 r0 r1 r2 I5 BR5 OR5 BW5
            go_upto_region 22 with fail
            go_region_held3 (fun w' => w'.cell? ⟨px, 2, none⟩ = some (.int .i64 x.i) ∧ w'.cell? ⟨px, 4, none⟩ = some (.int .u64 x.x))
            (first
              | go_keep
              | exact ⟨(HKS.out _ ((Chg.refl [bw] W5).drew.same (by assumption))).1, (HKS.out _ ((Chg.refl [bw] W5).drew.same (by assumption))).2.1⟩
              | exact ⟨ChgR.cell (by assumption) (HKS.out _ ((Chg.refl [bw] W5).drew.same (by assumption))).1 RX, ChgR.cell (by assumption) (HKS.out _ ((Chg.refl [bw] W5).drew.same (by assumption))).2.1 RX⟩)
            (first
              | (go_at_call 12; refine (set_calls (by first | exact A5 | exact A5.drew) av x.i x.x hav.1 hav.2).mono ?_; rintro e w6 ⟨rfl, A6, c6⟩)
              | (go_at_call 20; refine (rset_calls (HKS.out _ ((Chg.refl [bw] W5).drew.same (by assumption))).2.2.2 av x.i x.x hav.1 hav.2).mono ?_; rintro e WF ⟨rfl, ⟨esf, hesf, IF⟩, c7⟩))
            have c6' : Chg [bw] W5 w6 := (Chg.refl [bw] W5).drew.same c6
            have AF := IsAr.keepR A6 c7 (RG _ (by simp)) (RG _ (by simp)) (RG _ (by simp))
            rw [← hesf] at AF
            have XF := c7.at ((HKS.out _ c6').2.2.1.trans X5) RX
            have CF := Lib.hid ((CR5.out.same (ChgR.of c6' (by intro b hb; simp at hb; subst hb; exact GBW))).same (c7.mono fun b hb => (RL b hb).1))
            clear hesf c6 c6' c7 A6 A5 X5 CR5 x1 x2 x4 x5
            obtain ⟨TA2, tc2, s0, s1, s2, _, _, _⟩ := rf_cell IF
            have y2 : WF.cell? ⟨px, 2, none⟩ = some (.int .i64 x.i) := by rw [blk_cell XF]; rfl
            have G1 := get_calls AF av x.i hav.1 hav.2
            have G2 := rget_calls IF av hav.1 hav.2 x.i
            have K1 := fun n => kind_calls (AF.drewN n) av hav.1 hav.2
            have K2 := fun n => rkind_calls (IF.sub ((Chg.refl _ _).draw n)) av hav.1 hav.2
            have L1 := fun n => len_calls (AF.drewN n) av hav.1 hav.2
            have L2 := fun n => rlen_calls (IF.sub ((Chg.refl _ _).draw n)) av hav.1 hav.2
            have U1 := fun n => used_calls (AF.drewN n)
            have U2 := fun n => size_calls (AF.drewN n)
            have FIN : ∀ n, StP ga bw bh gr N (fun b => (RW b ∧ b ∉ [ga, bw, bh]) ∧ b < (WF.drewN n).heap.size) (esf.map RE.th) (WF.drewN n) ∧ ChgR RW w3 (WF.drewN n) := fun n =>
              ⟨⟨esf, rfl, AF.drewN n, (IF.sub ((Chg.refl _ _).draw n)).shrink.mono (fun b hb => ⟨RL b hb.1, hb.2⟩)⟩, CF.out.drawn n⟩
            have HFIN := Lib.hid FIN
            clear FIN CF
            go_upto_region 23 with fail
            go_wp2_with (first
              | (go_at_call 13; refine G1.mono ?_; rintro e w8 ⟨rfl, rfl⟩)
              | (go_at_call 21; refine G2.mono ?_; rintro e w8 ⟨rfl, rfl⟩))
            go_quiet ((first
              | (go_at_call 15; exact Calls.quiet_of_same ((K1 _).mono fun _ _ h => ⟨h.1, h.2.symm⟩))
              | (go_at_call 22; exact Calls.quiet_of_same ((K2 _).mono fun _ _ h => ⟨h.1, h.2.symm⟩))
              | (go_at_call 16; exact Calls.quiet_of_same ((L1 _).mono fun _ _ h => ⟨h.1, h.2.symm⟩))
              | (go_at_call 23; exact Calls.quiet_of_same ((L2 _).mono fun _ _ h => ⟨h.1, h.2.symm⟩))
              | (go_at_call 14; exact Calls.quiet_of_same ((U1 _).mono fun _ _ h => ⟨h.1, h.2.symm⟩))
              | (go_at_call 24; exact Calls.quiet_of_same ((U2 _).mono fun _ _ h => ⟨h.1, h.2.symm⟩))))
            go_wp2_with fail
            go_roundw
            case rel => exact ⟨k + 1, _, by omega, by go_num, (HFIN.out _).1, (HFIN.out _).2⟩
            case measure => simp [intOf]; omega
        case neg =>
          have t1 : decide (x.kind % 4 > 1) = true := by simp; omega
          by_cases hes : es.length = 0
          case pos =>
            have t2 : decide (0 < es.length) = false := by simp [hes]
            have hav : 0 ≤ x.w ∧ x.w < 18446744073709551616 := ⟨y4, y5⟩
            clear y4 y5 hrcell hes
            generalize x.w = av at *
            go_upto_region 14 with fail
            clear x3 q3
            have u0 : (x.kind % 4 == 0) = false := by simp; omega
            by_cases k0 : x.kind % 4 = 3
            case pos =>
              have u1 : (x.kind % 4 == 1) = false := by simp [k0]
              have u2 : (x.kind % 4 == 2) = false := by simp [k0]
              obtain ⟨WF, rfl⟩ : ∃ WF, WF = W5 := ⟨_, rfl⟩
              have IF := I5
              have AF := A5
              have XF := X5
              have CF := CR5
              obtain ⟨esf, rfl⟩ : ∃ esf, esf = es := ⟨_, rfl⟩
              clear k0 hk1 r0 r1 r2 I5 A5 X5 CR5 BR5 OR5 x1 x2 x4 x5
              obtain ⟨TA2, tc2, s0, s1, s2, _, _, _⟩ := rf_cell IF
              have y2 : WF.cell? ⟨px, 2, none⟩ = some (.int .i64 x.i) := by rw [blk_cell XF]; rfl
              have G1 := get_calls AF av x.i hav.1 hav.2
              have G2 := rget_calls IF av hav.1 hav.2 x.i
              have K1 := fun n => kind_calls (AF.drewN n) av hav.1 hav.2
              have K2 := fun n => rkind_calls (IF.sub ((Chg.refl _ _).draw n)) av hav.1 hav.2
              have L1 := fun n => len_calls (AF.drewN n) av hav.1 hav.2
              have L2 := fun n => rlen_calls (IF.sub ((Chg.refl _ _).draw n)) av hav.1 hav.2
              have U1 := fun n => used_calls (AF.drewN n)
              have U2 := fun n => size_calls (AF.drewN n)
              have FIN : ∀ n, StP ga bw bh gr N (fun b => (RW b ∧ b ∉ [ga, bw, bh]) ∧ b < (WF.drewN n).heap.size) (esf.map RE.th) (WF.drewN n) ∧ ChgR RW w3 (WF.drewN n) := fun n =>
                ⟨⟨esf, rfl, AF.drewN n, (IF.sub ((Chg.refl _ _).draw n)).shrink.mono (fun b hb => ⟨RL b hb.1, hb.2⟩)⟩, CF.out.drawn n⟩
              have HFIN := Lib.hid FIN
              clear FIN CF
              go_upto_region 23 with fail
              go_wp2_with (first
                | (go_at_call 13; refine G1.mono ?_; rintro e w8 ⟨rfl, rfl⟩)
                | (go_at_call 21; refine G2.mono ?_; rintro e w8 ⟨rfl, rfl⟩))
              go_quiet ((first
                | (go_at_call 15; exact Calls.quiet_of_same ((K1 _).mono fun _ _ h => ⟨h.1, h.2.symm⟩))
                | (go_at_call 22; exact Calls.quiet_of_same ((K2 _).mono fun _ _ h => ⟨h.1, h.2.symm⟩))
                | (go_at_call 16; exact Calls.quiet_of_same ((L1 _).mono fun _ _ h => ⟨h.1, h.2.symm⟩))
                | (go_at_call 23; exact Calls.quiet_of_same ((L2 _).mono fun _ _ h => ⟨h.1, h.2.symm⟩))
                | (go_at_call 14; exact Calls.quiet_of_same ((U1 _).mono fun _ _ h => ⟨h.1, h.2.symm⟩))
                | (go_at_call 24; exact Calls.quiet_of_same ((U2 _).mono fun _ _ h => ⟨h.1, h.2.symm⟩))))
              go_wp2_with fail
              go_roundw
              case rel => exact ⟨k + 1, _, by omega, by go_num, (HFIN.out _).1, (HFIN.out _).2⟩
              case measure => simp [intOf]; omega
            case neg =>
              have u1 : (x.kind % 4 == 1) = false := by simp; omega
              have u2 : (x.kind % 4 == 2) = true := by simp; omega
              have KS : ∀ W, Chg [bw] W5 W → W.cell? ⟨px, 2, none⟩ = some (.int .i64 x.i) ∧ W.cell? ⟨px, 4, none⟩ = some (.int .u64 x.x) ∧ W.heap[px]? = W5.heap[px]? ∧ IsRf W R5 gr N es := fun W c =>
                have hb : px ∉ [bw] := fun hm => XG (by simp at hm; subst hm; simp)
                ⟨c.cell x2 hb, c.cell x4 hb, c.block px (by omega) hb, I5.keep c (fun b hb => RG b (by simp at hb; subst hb; simp))⟩
              have HKS := Lib.hid KS
              have GBW := GL bw (by simp)
              clear KS k0 hk1 r0 r1 r2 I5 BR5 OR5 BW5
              go_upto_region 22 with fail
              go_region_held3 (fun w' => w'.cell? ⟨px, 2, none⟩ = some (.int .i64 x.i) ∧ w'.cell? ⟨px, 4, none⟩ = some (.int .u64 x.x))
              (first
                | go_keep
                | exact ⟨(HKS.out _ ((Chg.refl [bw] W5).drew.same (by assumption))).1, (HKS.out _ ((Chg.refl [bw] W5).drew.same (by assumption))).2.1⟩
                | exact ⟨ChgR.cell (by assumption) (HKS.out _ ((Chg.refl [bw] W5).drew.same (by assumption))).1 RX, ChgR.cell (by assumption) (HKS.out _ ((Chg.refl [bw] W5).drew.same (by assumption))).2.1 RX⟩)
              (first
                | (go_at_call 12; refine (set_calls (by first | exact A5 | exact A5.drew) av x.i x.x hav.1 hav.2).mono ?_; rintro e w6 ⟨rfl, A6, c6⟩)
                | (go_at_call 20; refine (rset_calls (HKS.out _ ((Chg.refl [bw] W5).drew.same (by assumption))).2.2.2 av x.i x.x hav.1 hav.2).mono ?_; rintro e WF ⟨rfl, ⟨esf, hesf, IF⟩, c7⟩))
              have c6' : Chg [bw] W5 w6 := (Chg.refl [bw] W5).drew.same c6
              have AF := IsAr.keepR A6 c7 (RG _ (by simp)) (RG _ (by simp)) (RG _ (by simp))
              rw [← hesf] at AF
              have XF := c7.at ((HKS.out _ c6').2.2.1.trans X5) RX
              have CF := Lib.hid ((CR5.out.same (ChgR.of c6' (by intro b hb; simp at hb; subst hb; exact GBW))).same (c7.mono fun b hb => (RL b hb).1))
              clear hesf c6 c6' c7 A6 A5 X5 CR5 x1 x2 x4 x5
              obtain ⟨TA2, tc2, s0, s1, s2, _, _, _⟩ := rf_cell IF
              have y2 : WF.cell? ⟨px, 2, none⟩ = some (.int .i64 x.i) := by rw [blk_cell XF]; rfl
              have G1 := get_calls AF av x.i hav.1 hav.2
              have G2 := rget_calls IF av hav.1 hav.2 x.i
              have K1 := fun n => kind_calls (AF.drewN n) av hav.1 hav.2
              have K2 := fun n => rkind_calls (IF.sub ((Chg.refl _ _).draw n)) av hav.1 hav.2
              have L1 := fun n => len_calls (AF.drewN n) av hav.1 hav.2
              have L2 := fun n => rlen_calls (IF.sub ((Chg.refl _ _).draw n)) av hav.1 hav.2
              have U1 := fun n => used_calls (AF.drewN n)
              have U2 := fun n => size_calls (AF.drewN n)
              have FIN : ∀ n, StP ga bw bh gr N (fun b => (RW b ∧ b ∉ [ga, bw, bh]) ∧ b < (WF.drewN n).heap.size) (esf.map RE.th) (WF.drewN n) ∧ ChgR RW w3 (WF.drewN n) := fun n =>
                ⟨⟨esf, rfl, AF.drewN n, (IF.sub ((Chg.refl _ _).draw n)).shrink.mono (fun b hb => ⟨RL b hb.1, hb.2⟩)⟩, CF.out.drawn n⟩
              have HFIN := Lib.hid FIN
              clear FIN CF
              go_upto_region 23 with fail
              go_wp2_with (first
                | (go_at_call 13; refine G1.mono ?_; rintro e w8 ⟨rfl, rfl⟩)
                | (go_at_call 21; refine G2.mono ?_; rintro e w8 ⟨rfl, rfl⟩))
              go_quiet ((first
                | (go_at_call 15; exact Calls.quiet_of_same ((K1 _).mono fun _ _ h => ⟨h.1, h.2.symm⟩))
                | (go_at_call 22; exact Calls.quiet_of_same ((K2 _).mono fun _ _ h => ⟨h.1, h.2.symm⟩))
                | (go_at_call 16; exact Calls.quiet_of_same ((L1 _).mono fun _ _ h => ⟨h.1, h.2.symm⟩))
                | (go_at_call 23; exact Calls.quiet_of_same ((L2 _).mono fun _ _ h => ⟨h.1, h.2.symm⟩))
                | (go_at_call 14; exact Calls.quiet_of_same ((U1 _).mono fun _ _ h => ⟨h.1, h.2.symm⟩))
                | (go_at_call 24; exact Calls.quiet_of_same ((U2 _).mono fun _ _ h => ⟨h.1, h.2.symm⟩))))
              go_wp2_with fail
              go_roundw
              case rel => exact ⟨k + 1, _, by omega, by go_num, (HFIN.out _).1, (HFIN.out _).2⟩
              case measure => simp [intOf]; omega
          case neg =>
            have t2 : decide (0 < es.length) = true := by simp; omega
            obtain ⟨tb, rfl, hrc⟩ := hrcell (by omega)
            obtain ⟨j, hj, hjl⟩ := pick_ix x.n es.length (by omega)
            obtain ⟨a, ha⟩ : ∃ a, es[j]? = some a := ⟨_, List.getElem?_eq_getElem hjl⟩
            have ra : W5.cell? ⟨tb, j * 3, none⟩ = some (.int .i64 (a.pos : Int)) := hrc j a 0 _ ha rfl
            have hpo := okAt_pos I5.pos a (List.mem_of_getElem? ha)
            have hle5 := I5.le
            have hm1 := tmod_M x.n (m := (es.length : Int)) (by omega)
            obtain ⟨t, ht⟩ : ∃ t, x.n.tmod (es.length : Int) = t := ⟨_, rfl⟩
            rw [ht] at hj hm1
            have t3 : IntKind.i64.wrap (t + (es.length : Int)) = t + (es.length : Int) := IntWalk.i64_in _ (by omega)
            have t4 : (t + (es.length : Int)).tmod (es.length : Int) = j := by rw [tmod_ge _ (by omega)]; exact hj
            have t5 : (0 : Int) ≤ (j : Int) := Int.natCast_nonneg _
            have t6 : (j : Int) < (es.length : Int) := by omega
            have OF := fun w => rof_yes 1 (a.pos : Int) w (.inl rfl) (by omega) (by omega)
            have hav : 0 ≤ (a.pos : Int) * 8 + 1 ∧ (a.pos : Int) * 8 + 1 < 18446744073709551616 := by omega
            clear hrc hrcell ha
            go_upto_region 13 with fail
            go_quiet ((go_at_call 18; exact Calls.quiet_of_same ((OF _).mono fun _ _ h => ⟨h.1, h.2.symm⟩)))
            generalize (a.pos : Int) * 8 + 1 = av at *
            have D : Chg [] W5 (W5.drewN nq) := (Chg.refl _ _).draw _
            have I5 := I5.sub D
            have A5 := A5.sub D
            have X5 := D.at X5 (by simp)
            have x0 := D.cell x0 (by simp)
            have x1 := D.cell x1 (by simp)
            have x2 := D.cell x2 (by simp)
            have x4 := D.cell x4 (by simp)
            have x5 := D.cell x5 (by simp)
            have r0 := D.cell r0 (by simp)
            have r1 := D.cell r1 (by simp)
            have r2 := D.cell r2 (by simp)
            have CR5 := Lib.hid (CR5.out.same (ChgR.of0 D))
            have BW5 := below_draw BW5 nq
            have Z5 : (W5.drewN nq).heap.size = px + 1 := Z5
            clear ra OF hm1 hj ht t3 t4 t5 t6 hjl hpo hle5 D q3
            generalize W5.drewN nq = W5 at *
            go_upto_region 14 with fail
            have u0 : (x.kind % 4 == 0) = false := by simp; omega
            by_cases k0 : x.kind % 4 = 3
            case pos =>
              have u1 : (x.kind % 4 == 1) = false := by simp [k0]
              have u2 : (x.kind % 4 == 2) = false := by simp [k0]
              obtain ⟨WF, rfl⟩ : ∃ WF, WF = W5 := ⟨_, rfl⟩
              have IF := I5
              have AF := A5
              have XF := X5
              have CF := CR5
              obtain ⟨esf, rfl⟩ : ∃ esf, esf = es := ⟨_, rfl⟩
              clear k0 hk1 r0 r1 r2 I5 A5 X5 CR5 BR5 OR5 x1 x2 x4 x5
              obtain ⟨TA2, tc2, s0, s1, s2, _, _, _⟩ := rf_cell IF
              have y2 : WF.cell? ⟨px, 2, none⟩ = some (.int .i64 x.i) := by rw [blk_cell XF]; rfl
              have G1 := get_calls AF av x.i hav.1 hav.2
              have G2 := rget_calls IF av hav.1 hav.2 x.i
              have K1 := fun n => kind_calls (AF.drewN n) av hav.1 hav.2
              have K2 := fun n => rkind_calls (IF.sub ((Chg.refl _ _).draw n)) av hav.1 hav.2
              have L1 := fun n => len_calls (AF.drewN n) av hav.1 hav.2
              have L2 := fun n => rlen_calls (IF.sub ((Chg.refl _ _).draw n)) av hav.1 hav.2
              have U1 := fun n => used_calls (AF.drewN n)
              have U2 := fun n => size_calls (AF.drewN n)
              have FIN : ∀ n, StP ga bw bh gr N (fun b => (RW b ∧ b ∉ [ga, bw, bh]) ∧ b < (WF.drewN n).heap.size) (esf.map RE.th) (WF.drewN n) ∧ ChgR RW w3 (WF.drewN n) := fun n =>
                ⟨⟨esf, rfl, AF.drewN n, (IF.sub ((Chg.refl _ _).draw n)).shrink.mono (fun b hb => ⟨RL b hb.1, hb.2⟩)⟩, CF.out.drawn n⟩
              have HFIN := Lib.hid FIN
              clear FIN CF
              go_upto_region 23 with fail
              go_wp2_with (first
                | (go_at_call 13; refine G1.mono ?_; rintro e w8 ⟨rfl, rfl⟩)
                | (go_at_call 21; refine G2.mono ?_; rintro e w8 ⟨rfl, rfl⟩))
              go_quiet ((first
                | (go_at_call 15; exact Calls.quiet_of_same ((K1 _).mono fun _ _ h => ⟨h.1, h.2.symm⟩))
                | (go_at_call 22; exact Calls.quiet_of_same ((K2 _).mono fun _ _ h => ⟨h.1, h.2.symm⟩))
                | (go_at_call 16; exact Calls.quiet_of_same ((L1 _).mono fun _ _ h => ⟨h.1, h.2.symm⟩))
                | (go_at_call 23; exact Calls.quiet_of_same ((L2 _).mono fun _ _ h => ⟨h.1, h.2.symm⟩))
                | (go_at_call 14; exact Calls.quiet_of_same ((U1 _).mono fun _ _ h => ⟨h.1, h.2.symm⟩))
                | (go_at_call 24; exact Calls.quiet_of_same ((U2 _).mono fun _ _ h => ⟨h.1, h.2.symm⟩))))
              go_wp2_with fail
              go_roundw
              case rel => exact ⟨k + 1, _, by omega, by go_num, (HFIN.out _).1, (HFIN.out _).2⟩
              case measure => simp [intOf]; omega
            case neg =>
              have u1 : (x.kind % 4 == 1) = false := by simp; omega
              have u2 : (x.kind % 4 == 2) = true := by simp; omega
              have KS : ∀ W, Chg [bw] W5 W → W.cell? ⟨px, 2, none⟩ = some (.int .i64 x.i) ∧ W.cell? ⟨px, 4, none⟩ = some (.int .u64 x.x) ∧ W.heap[px]? = W5.heap[px]? ∧ IsRf W R5 gr N es := fun W c =>
                have hb : px ∉ [bw] := fun hm => XG (by simp at hm; subst hm; simp)
                ⟨c.cell x2 hb, c.cell x4 hb, c.block px (by omega) hb, I5.keep c (fun b hb => RG b (by simp at hb; subst hb; simp))⟩
              have HKS := Lib.hid KS
              have GBW := GL bw (by simp)
              clear KS k0 hk1 r0 r1 r2 I5 BR5 OR5 BW5
              go_upto_region 22 with fail
              go_region_held3 (fun w' => w'.cell? ⟨px, 2, none⟩ = some (.int .i64 x.i) ∧ w'.cell? ⟨px, 4, none⟩ = some (.int .u64 x.x))
              (first
                | go_keep
                | exact ⟨(HKS.out _ ((Chg.refl [bw] W5).drew.same (by assumption))).1, (HKS.out _ ((Chg.refl [bw] W5).drew.same (by assumption))).2.1⟩
                | exact ⟨ChgR.cell (by assumption) (HKS.out _ ((Chg.refl [bw] W5).drew.same (by assumption))).1 RX, ChgR.cell (by assumption) (HKS.out _ ((Chg.refl [bw] W5).drew.same (by assumption))).2.1 RX⟩)
              (first
                | (go_at_call 12; refine (set_calls (by first | exact A5 | exact A5.drew) av x.i x.x hav.1 hav.2).mono ?_; rintro e w6 ⟨rfl, A6, c6⟩)
                | (go_at_call 20; refine (rset_calls (HKS.out _ ((Chg.refl [bw] W5).drew.same (by assumption))).2.2.2 av x.i x.x hav.1 hav.2).mono ?_; rintro e WF ⟨rfl, ⟨esf, hesf, IF⟩, c7⟩))
              have c6' : Chg [bw] W5 w6 := (Chg.refl [bw] W5).drew.same c6
              have AF := IsAr.keepR A6 c7 (RG _ (by simp)) (RG _ (by simp)) (RG _ (by simp))
              rw [← hesf] at AF
              have XF := c7.at ((HKS.out _ c6').2.2.1.trans X5) RX
              have CF := Lib.hid ((CR5.out.same (ChgR.of c6' (by intro b hb; simp at hb; subst hb; exact GBW))).same (c7.mono fun b hb => (RL b hb).1))
              clear hesf c6 c6' c7 A6 A5 X5 CR5 x1 x2 x4 x5
              obtain ⟨TA2, tc2, s0, s1, s2, _, _, _⟩ := rf_cell IF
              have y2 : WF.cell? ⟨px, 2, none⟩ = some (.int .i64 x.i) := by rw [blk_cell XF]; rfl
              have G1 := get_calls AF av x.i hav.1 hav.2
              have G2 := rget_calls IF av hav.1 hav.2 x.i
              have K1 := fun n => kind_calls (AF.drewN n) av hav.1 hav.2
              have K2 := fun n => rkind_calls (IF.sub ((Chg.refl _ _).draw n)) av hav.1 hav.2
              have L1 := fun n => len_calls (AF.drewN n) av hav.1 hav.2
              have L2 := fun n => rlen_calls (IF.sub ((Chg.refl _ _).draw n)) av hav.1 hav.2
              have U1 := fun n => used_calls (AF.drewN n)
              have U2 := fun n => size_calls (AF.drewN n)
              have FIN : ∀ n, StP ga bw bh gr N (fun b => (RW b ∧ b ∉ [ga, bw, bh]) ∧ b < (WF.drewN n).heap.size) (esf.map RE.th) (WF.drewN n) ∧ ChgR RW w3 (WF.drewN n) := fun n =>
                ⟨⟨esf, rfl, AF.drewN n, (IF.sub ((Chg.refl _ _).draw n)).shrink.mono (fun b hb => ⟨RL b hb.1, hb.2⟩)⟩, CF.out.drawn n⟩
              have HFIN := Lib.hid FIN
              clear FIN CF
              go_upto_region 23 with fail
              go_wp2_with (first
                | (go_at_call 13; refine G1.mono ?_; rintro e w8 ⟨rfl, rfl⟩)
                | (go_at_call 21; refine G2.mono ?_; rintro e w8 ⟨rfl, rfl⟩))
              go_quiet ((first
                | (go_at_call 15; exact Calls.quiet_of_same ((K1 _).mono fun _ _ h => ⟨h.1, h.2.symm⟩))
                | (go_at_call 22; exact Calls.quiet_of_same ((K2 _).mono fun _ _ h => ⟨h.1, h.2.symm⟩))
                | (go_at_call 16; exact Calls.quiet_of_same ((L1 _).mono fun _ _ h => ⟨h.1, h.2.symm⟩))
                | (go_at_call 23; exact Calls.quiet_of_same ((L2 _).mono fun _ _ h => ⟨h.1, h.2.symm⟩))
                | (go_at_call 14; exact Calls.quiet_of_same ((U1 _).mono fun _ _ h => ⟨h.1, h.2.symm⟩))
                | (go_at_call 24; exact Calls.quiet_of_same ((U2 _).mono fun _ _ h => ⟨h.1, h.2.symm⟩))))
              go_wp2_with fail
              go_roundw
              case rel => exact ⟨k + 1, _, by omega, by go_num, (HFIN.out _).1, (HFIN.out _).2⟩
              case measure => simp [intOf]; omega
      · have BR5 := Lib.hid hB
        clear hB hIA hIR hcr hor
        go_wp2_with fail
        go_ret
        exact ⟨rfl, BR5.out⟩
  · go_enter Try.func5, Try.ntmps5
    go_wp2_with fail
    refine (shown_calls _).mono ?_
    rintro e w0 ⟨rfl, hc0⟩
    go_wp2_with fail
    refine (new_bad n _ (by omega)).mono ?_
    rintro e w1 ⟨rfl, rfl⟩
    go_wp2_with fail
    refine (rnew_bad n _ (by omega)).mono ?_
    rintro e w2 ⟨rfl, rfl⟩
    go_wp2_with fail
    go_ret
    exact ⟨rfl, hc0.below⟩
end Go.Proofs.Ytlaipmakgicnfaa.Rf

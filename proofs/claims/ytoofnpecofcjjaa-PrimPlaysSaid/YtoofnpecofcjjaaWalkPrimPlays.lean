/- The walk of PrimPlays: for any size, any things made ahead and any acts the law answers true; its premises are what the row gives of its arguments. -/
import Derived.Test.YtoofnpecofcjjaaRefPrim
import Derived.Test.YtoofnpecofcjjaaPActRead
namespace Go.Proofs.Ytoofnpecofcjjaa.Prim
open Go Go.RowKit Go.Proofs.Ytoofnpecofcjjaa.Heap Go.Proofs.Ytoofnpecofcjjaa.Word Go.Proofs.Ytoofnpecofcjjaa.Own Go.Proofs.Ytoofnpecofcjjaa.Ar Go.Proofs.Ytoofnpecofcjjaa.Pure Go.Proofs.Ytoofnpecofcjjaa.Rf
attribute [local go_sem] max2_int min2_int max_two min_two
/-- both arenas hold the same things; the reference's lies in R alone -/
def StP (ga bw bh gr N : Nat) (R : Nat → Prop) (l : List Thing) (W : World) : Prop := ∃ es, es.map RE.th = l ∧ IsAr W ga bw bh N l ∧ IsRf W R gr N es
/-- words alone -/
def okL (l : List Thing) : Prop := ∀ o ∈ l, ∀ x ∈ o.2, okW x
theorem wf_u16 {n : Int} (h : (Lit.int .u16 n).wf = true) : 0 ≤ n ∧ n < 65536 := by
  simp [Lit.wf, IntKind.min, IntKind.max, IntKind.signed, IntKind.bits] at h; omega
theorem PAct.okX {w : World} {a : PAct} (h : a.Ok w) (q : Nat) : ∀ x ∈ a.l.take q, okW x := by
  intro x hx
  have hx := List.mem_of_mem_take hx
  rcases h.l with ⟨_, _, _, h3⟩ | ⟨_, _, _, _, _, _, h6⟩
  · rw [h3] at hx; cases hx
  · exact wf_u64 (h6 x hx)
theorem okW0 : okW 0 := ⟨by decide, by decide⟩
theorem allocA_ok {l : List Thing} {N : Nat} (hN : N ≤ 65536) (hl : okL l) (k : Int) (xs : List Int) (hx : ∀ x ∈ xs, okW x) : okL (allocA l N k xs).1 ∧ okW (allocA l N k xs).2.1 := by
  unfold allocA
  split
  · exact ⟨hl, okW0⟩
  · split
    · exact ⟨hl, okW0⟩
    · refine ⟨?_, by unfold okW; simp only; omega⟩
      intro o ho
      rcases List.mem_append.1 ho with h | h
      · exact hl o h
      · simp at h; subst h; exact hx
theorem look_mem {l : List Thing} {a : Nat} {o : Thing} (h : Ar.look l a = some o) : o ∈ l := by
  induction l generalizing a with
  | nil => simp [Ar.look] at h
  | cons b r ih =>
    simp only [Ar.look] at h
    split at h
    · simp at h; subst h; simp
    · split at h
      · simp at h
      · exact List.mem_cons_of_mem _ (ih h)
theorem getA_ok {l : List Thing} (hl : okL l) (x i : Int) : okW (getA l x i).1 := by
  unfold getA
  cases hp : place l x with
  | none => exact okW0
  | some o =>
    have ho : o ∈ l := by
      unfold place at hp
      split at hp
      · exact look_mem hp
      · simp at hp
    simp only
    split
    · rename_i h
      simp only
      rw [List.getD_eq_getElem?_getD, List.getElem?_eq_getElem (by omega)]
      exact hl o ho _ (List.getElem_mem _)
    · exact okW0
theorem boolP_ok (b : Bool) : okW (boolP b) := by cases b <;> decide
theorem doP_ok (op a b : Int) : okW (doP op a b).1 := by
  unfold doP
  repeat' split
  all_goals first | exact intP_wf _ | exact okW0 | exact boolP_ok _ | skip
theorem primA_ok {l : List Thing} {N : Nat} (hN : N ≤ 65536) (hl : okL l) (op : Int) (xs : List Int) (hx : ∀ x ∈ xs, okW x) : okL (primA l N op xs).1 ∧ okW (primA l N op xs).2.1 := by
  match xs, hx with
  | [x], hx =>
    show okL l ∧ okW (oneA l op x).1
    refine ⟨hl, ?_⟩
    unfold oneA
    repeat' split
    all_goals first | exact boolP_ok _ | exact okW0 | exact getA_ok hl _ _
  | [x, y], hx =>
    show okL (twoA l N op x y).1 ∧ okW (twoA l N op x y).2.1
    unfold twoA
    split
    · exact ⟨hl, doP_ok _ _ _⟩
    · split
      · exact ⟨hl, boolP_ok _⟩
      · split
        · exact allocA_ok hN hl 1 [x, y] hx
        · exact ⟨hl, okW0⟩
  | [], _ => exact ⟨hl, okW0⟩
  | _ :: _ :: _ :: _, _ => exact ⟨hl, okW0⟩
/-- prim.Do on any row of words -/
theorem do_calls {w : World} {g bw bh size : Nat} {l : List Thing} (h : IsAr w g bw bh size l) (op : Int) (v : Value) (xs : List Int) (hok : ∀ x ∈ xs, okW x) (hv : Rd w [g, bw, bh] v xs) :
    Calls Try.prog 14 #[.pointer (some ⟨g, 0, none⟩), .int .i64 op, v] w fun e w' =>
      e = .returned (.tuple #[.int .u64 (primA l size op xs).2.1, .int .i64 (primA l size op xs).2.2]) ∧ IsAr w' g bw bh size (primA l size op xs).1 ∧ Chg [g, bw, bh] w w' := by
  obtain ⟨A, c, rfl, hcell⟩ := hv
  match xs, hok, hcell with
  | [x], hok, hcell =>
    obtain ⟨b, o, rfl, hb, hc⟩ := hcell (by simp)
    have hx := hc 0 x rfl
    rw [Nat.add_zero] at hx
    exact (do_one h op x (hok x (by simp)).1 (hok x (by simp)).2 b o c hx).mono fun e w' ⟨h1, h2, h3⟩ => ⟨h1, h2, h3.mono (by simp)⟩
  | [x, y], hok, hcell =>
    obtain ⟨b, o, rfl, hb, hc⟩ := hcell (by simp)
    have hx := hc 0 x rfl
    rw [Nat.add_zero] at hx
    have hy := hc 1 y rfl
    exact do_two h op x y (hok x (by simp)).1 (hok x (by simp)).2 (hok y (by simp)).1 (hok y (by simp)).2 b o c hx hy hb
  | [], _, _ => exact (do_many _ op A 0 c w (by decide) (by decide)).mono fun e w' ⟨h1, h2⟩ => ⟨h1, h2 ▸ h, h2 ▸ Chg.refl _ _⟩
  | x :: y :: z :: r, _, _ => exact (do_many _ op A (r.length + 3) c w (by omega) (by omega)).mono fun e w' ⟨h1, h2⟩ => ⟨h1, h2 ▸ h, h2 ▸ Chg.refl _ _⟩
theorem chg_past {R : Nat → Prop} {w w1 w2 : World} (h : Chg [] w w1) (k : ChgR R w1 w2) (hR : ∀ b, R b → w.heap.size ≤ b) : Chg [] w w2 :=
  ⟨k.os.trans h.os, k.tape.trans h.tape, k.output.trans h.output, Nat.le_trans h.size k.size, fun b hb hn => (k.block b (Nat.lt_of_lt_of_le hb h.size) (fun hr => by have := hR b hr; omega)).trans (h.block b hb hn)⟩
set_option maxHeartbeats 4000000 in
set_option maxRecDepth 100000 in
theorem walkPlays (sz : Int) (A : Option Addr) (c : Nat) (al : List PAct) (A' : Option Addr) (c' : Nat) (bl : List PAct) (w : World) (hsz : (Lit.int .u16 sz).wf = true)
    (hs : Src w 3 (.slice A al.length c) al.length (al.flatMap PAct.cells)) (hok : ∀ a ∈ al, a.Ok w) (hlc : al.length ≤ c) (hc : c ≤ maxLen)
    (hs' : Src w 3 (.slice A' bl.length c') bl.length (bl.flatMap PAct.cells)) (hok' : ∀ a ∈ bl, a.Ok w) (hlc' : bl.length ≤ c') (hc' : c' ≤ maxLen) :
    Calls Try.prog 3 #[.int .u16 sz, .slice A al.length c, .slice A' bl.length c'] w fun e w' => e = .returned (.bool true) ∧ Below w.heap.size w w' := by
  have osz := wf_u16 hsz
  clear hsz
  unfold maxLen at hc hc'
  obtain ⟨N, hN⟩ : ∃ N : Nat, sz % 1024 + 1 = (N : Int) := ⟨(sz % 1024 + 1).toNat, by omega⟩
  have N1 : 1 ≤ N := by omega
  have N2 : N ≤ 65536 := by omega
  have e0 : wrap64 sz = sz := wrap64_id (by omega) (by omega)
  have e1 : sz.tmod 1024 = sz % 1024 := tmod_ge 1024 osz.1
  have e2 : wrap64 (sz % 1024 + 1) = sz % 1024 + 1 := wrap64_id (by omega) (by omega)
  go_enter Try.func3, Try.ntmps3
  go_wp2_with fail
  refine (shown_calls _).mono ?_
  rintro e w0 ⟨rfl, hc0⟩
  go_wp2_with fail
  refine (new_calls N _ N1 N2).mono ?_
  rintro e w1 ⟨ga, bw, bh, rfl, ha, hc1, l1, l2, l3⟩
  go_wp2_with fail
  refine (rnew_calls N _ N1 N2).mono ?_
  rintro e w2 ⟨gr, rfl, hrf, hc2, l4, l5⟩
  have hC : Chg [] w w2 := (hc0.same hc1).same hc2
  have hal := ha.lt
  have s0 := hc0.size
  have s1 := hc1.size
  have s2 := hc2.size
  have hal : ∀ b, b ∈ [ga, bw, bh] → w.heap.size ≤ b ∧ b < w1.heap.size := fun b hb => ⟨by simp only [List.mem_cons, List.not_mem_nil, or_false] at hb; rcases hb with rfl | rfl | rfl <;> omega, hal b hb⟩
  have ha2 := ha.sub hc2
  have hrf2 : IsRf w2 (fun b => (w.heap.size ≤ b ∧ b ∉ [ga, bw, bh]) ∧ b < w2.heap.size) gr N [] := hrf _ ⟨⟨by omega, fun hm => by have := hal gr hm; omega⟩, l5⟩
  have hgr : Hid (∀ b, b ∈ [ga, bw, bh] → w.heap.size ≤ b ∧ b < w2.heap.size) := Lib.hid fun b hb => ⟨(hal b hb).1, by have := (hal b hb).2; omega⟩
  have HC2 := Lib.hid hC
  clear hrf ha hc0 hc1 hc2 l1 l2 l3 l4 l5 s0 s1 s2 hal hC osz e0 e1 e2 hN
  go_wp2_with fail
  go_loopw [52] (fun i wr => ∃ (k : Nat) (l : List Thing), k ≤ al.length ∧ i = .int .i64 k ∧ okL l ∧ StP ga bw bh gr N (fun b => (w.heap.size ≤ b ∧ b ∉ [ga, bw, bh]) ∧ b < wr.heap.size) l wr ∧ w2.heap.size ≤ wr.heap.size ∧ Chg [] w wr) (fun i _ => al.length - (intOf i).toNat)
  case atStart => exact ⟨0, [], Nat.zero_le _, rfl, (fun o ho => by cases ho), ⟨[], rfl, ha2, hrf2⟩, Nat.le_refl _, HC2.out⟩
  case round =>
    obtain ⟨k, l, hk, rfl, hol, ⟨es, hel, hIA, hIR⟩, hcr2, hcr⟩ := hrel
    by_cases hlt : k < al.length
    · obtain ⟨a, hak⟩ : ∃ a, al[k]? = some a := ⟨_, List.getElem?_eq_getElem hlt⟩
      obtain ⟨ab, ao, rfl, hab, hcell⟩ := (hs.grow hcr).pl (by omega) (by decide)
      have q0 := PAct.cell hcell hak 0 _ rfl
      rw [Nat.add_zero] at q0
      have q1 := PAct.cell hcell hak 1 _ rfl
      have q2 := PAct.cell hcell hak 2 _ rfl
      have hoka := hok a (List.mem_of_getElem? hak)
      obtain ⟨q, hmin, m1, m2, _⟩ := min_nat a.lLen 4 4 rfl
      have hlc' : a.lLen ≤ a.lCap := by rcases hoka.l with ⟨_, h1, h2, _⟩ | ⟨_, _, h, _⟩ <;> omega
      have hlq : (a.l.take q).length = q := by
        rcases hoka.l with ⟨_, h1, h2, h3⟩ | ⟨_, _, h, _, h2, _⟩
        · simp [h3]; omega
        · simp; omega
      have hoX : ∀ x ∈ a.l.take q, okW x := PAct.okX hoka q
      have hsrc : Src w 1 (.slice a.lA q a.lCap) q (nums .u64 (a.l.take q)) := hoka.l.src q m1 a.lCap
      have i1 : (0 : Int) ≤ (q : Int) := Int.natCast_nonneg _
      have i2 : (q : Int) ≤ (a.lCap : Int) := by omega
      have i3 : (q : Int) ≤ (a.lLen : Int) := by omega
      clear hcell hoka
      -- the world behind the variable
      obtain ⟨O, hO⟩ : ∃ O, O = Obj.cells #[.int .i64 a.op, .slice a.lA a.lLen a.lCap, .int .u8 a.last] 34 := ⟨_, rfl⟩
      obtain ⟨W5, hW5⟩ : ∃ W5, W5 = wr.alloc O := ⟨_, rfl⟩
      have C5 : Chg [] wr W5 := by rw [hW5]; exact (Chg.refl _ _).alloc _
      have Z5 : W5.heap.size = wr.heap.size + 1 := by rw [hW5]; simp
      have X5 : W5.heap[wr.heap.size]? = some (.cells #[.int .i64 a.op, .slice a.lA a.lLen a.lCap, .int .u8 a.last] 34 (0, 0)) := by rw [hW5, hO]; exact blk_new rfl
      obtain ⟨R5, hR5⟩ : ∃ R5 : Nat → Prop, R5 = fun b => (w.heap.size ≤ b ∧ b ∉ [ga, bw, bh]) ∧ b ≠ wr.heap.size := ⟨_, rfl⟩
      have I5 : IsRf W5 R5 gr N es := (hIR.sub C5).mono (fun b hb => by rw [hR5]; exact ⟨hb.1, by have := hb.2; omega⟩)
      have A5 : IsAr W5 ga bw bh N l := hIA.sub C5
      have hww := hcr.size
      have N5 : ∀ b, W5.heap.size ≤ b → R5 b := fun b hb => by
        rw [hR5]
        exact ⟨⟨by omega, fun hm => by have := (hgr.out b hm).2; omega⟩, by omega⟩
      have RG : ∀ b, b ∈ [ga, bw, bh] → ¬ R5 b := fun b hb hr => by rw [hR5] at hr; exact hr.1.2 hb
      have RX : ¬ R5 wr.heap.size := fun hr => by rw [hR5] at hr; exact hr.2 rfl
      have RL : ∀ b, R5 b → w.heap.size ≤ b ∧ b ∉ [ga, bw, bh] := fun b hb => by rw [hR5] at hb; exact hb.1
      have XG : wr.heap.size ∉ [ga, bw, bh] := fun hm => by have := (hgr.out _ hm).2; omega
      clear hR5
      subst hel
      have CW : Chg [] w W5 := hcr.same C5
      generalize hpx : wr.heap.size = px at *
      have x0 : W5.cell? ⟨px, 0, none⟩ = some (.int .i64 a.op) := by rw [blk_cell X5]; rfl
      have x1 : W5.cell? ⟨px, 1, none⟩ = some (.slice a.lA a.lLen a.lCap) := by rw [blk_cell X5]; rfl
      have HW := fun (W : World) (h2 : Chg [] W5 W) => alloc_any (A5.sub h2) a.op (.slice a.lA q a.lCap) (a.l.take q) (by
        have := rd_old (w0 := w) (xs := a.l.take q) (A := a.lA) (c := a.lCap) (by rw [hlq]; exact hsrc) (CW.same h2) (by simp) [ga, bw, bh] (fun b hb => (hgr.out b hb).1)
        rw [hlq] at this
        exact this)
      have HR := fun (W : World) (h1 : Chg [ga, bw, bh] W5 W) => ralloc_any (I5.keep h1 RG) a.op a.lA a.lCap (a.l.take q) (by
        rw [hlq]
        exact hsrc.grow (CW.trans h1 (fun b hb => .inr (hgr.out b hb).1))) (fun b hb => N5 b (by have := h1.size; omega))
      rw [hlq] at HR
      have hAOK := allocA_ok N2 hol a.op _ hoX
      have HPX := Lib.hid hpx
      have HCW := Lib.hid CW
      have HCW2 : Hid (w2.heap.size ≤ W5.heap.size) := Lib.hid (by omega)
      clear hak hcr hcr2 hsrc hIA hIR C5 hww CW hoX Z5
      by_cases h20 : k < 20
      · have t1 : decide ((k : Int) < 20) = true := by simp; omega
        have hk' := Lib.hid hk
        have hlt' := Lib.hid hlt
        clear hk hlt h20
        go_upto_region 11 with fail
        rw [← hO, ← hW5]
        clear hO hW5 hpx
        go_region_held3 (fun w' => w'.cell? ⟨px, 0, none⟩ = some (.int .i64 a.op) ∧ w'.cell? ⟨px, 1, none⟩ = some (.slice a.lA a.lLen a.lCap))
          (first | go_keep | exact ⟨Chg.cell (by assumption) x0 XG, Chg.cell (by assumption) x1 XG⟩)
          ((go_at_call 12; refine (HW _ (by first | exact Chg.refl _ _ | exact (Chg.refl [] _).drew | exact (Chg.refl [] _).draw _)).mono ?_; rintro e w3 ⟨rfl, A6, c6a⟩; have c6 := ((Chg.refl [ga, bw, bh] W5).draw 1).same c6a; clear c6a))
        have z0 := c6.cell x0 XG
        have z1 := c6.cell x1 XG
        go_upto_region 12 with fail
        go_region_held3 (fun w' => w'.cell? ⟨px, 0, none⟩ = some (.int .i64 a.op) ∧ w'.cell? ⟨px, 1, none⟩ = some (.slice a.lA a.lLen a.lCap))
          (first | go_keep | exact ⟨ChgR.cell (by assumption) z0 RX, ChgR.cell (by assumption) z1 RX⟩)
          ((go_at_call 13; refine (HR _ (by first | exact c6 | exact c6.drew | exact c6.draw _)).mono ?_; rintro e w4 ⟨rfl, ⟨esf, hesf, IF⟩, c7a⟩; have c7 := ((ChgR.refl R5 w3).drawn 1).same c7a; clear c7a))
        have AF := IsAr.keepR A6 c7 (RG _ (by simp)) (RG _ (by simp)) (RG _ (by simp))
        have e6 : Chg [] w w3 := HCW.out.trans c6 (fun b hb => .inr (hgr.out b hb).1)
        have FIN : StP ga bw bh gr N (fun b => (w.heap.size ≤ b ∧ b ∉ [ga, bw, bh]) ∧ b < w4.heap.size) (allocA (es.map RE.th) N a.op (a.l.take q)).1 w4 ∧ Chg [] w w4 :=
          ⟨⟨esf, hesf, AF, IF.shrink.mono (fun b hb => ⟨RL b hb.1, hb.2⟩)⟩, chg_past e6 c7 (fun b hb => (RL b hb).1)⟩
        have HFIN := Lib.hid FIN
        have hsz : Hid (w2.heap.size ≤ w4.heap.size) := Lib.hid (by have := HCW2.out; have := c6.size; have := c7.size; omega)
        clear FIN AF IF e6 c7 c6 hesf x0 x1 z0 z1 X5
        go_wp2_with fail
        go_roundw
        case rel => exact ⟨k + 1, _, by have := hlt'.out; omega, by go_num, hAOK.1, HFIN.out.1, hsz.out, HFIN.out.2⟩
        case measure => have := hlt'.out; simp [intOf]; omega
      · have t1 : decide ((k : Int) < 20) = false := by simp; omega
        have FIN : StP ga bw bh gr N (fun b => (w.heap.size ≤ b ∧ b ∉ [ga, bw, bh]) ∧ b < W5.heap.size) (es.map RE.th) W5 :=
          ⟨es, rfl, A5, I5.shrink.mono (fun b hb => ⟨RL b hb.1, hb.2⟩)⟩
        have HFIN := Lib.hid FIN
        have hk' := Lib.hid hk
        have hlt' := Lib.hid hlt
        clear FIN x0 x1 X5 A5 I5 hk hlt h20
        go_upto_region 13 with fail
        rw [← hO, ← hW5]
        clear hO hW5 hpx
        go_wp2_with fail
        go_roundw
        case rel => exact ⟨k + 1, _, by have := hlt'.out; omega, by go_num, hol, HFIN.out, HCW2.out, HCW.out⟩
        case measure => have := hlt'.out; simp [intOf]; omega
    · clear hs hok hlc hc ha2 hrf2
      have hst : StP ga bw bh gr N (fun b => (w.heap.size ≤ b ∧ b ∉ [ga, bw, bh]) ∧ b < wr.heap.size) l wr := ⟨es, hel, hIA, hIR⟩
      clear hel hIA hIR hk
      have hlt : ¬ ((k : Int) < (al.length : Int)) := by omega
      obtain ⟨wo, rfl⟩ : ∃ wo : World, wo = wr := ⟨_, rfl⟩
      go_wp2_with fail
      clear hlt
      obtain ⟨ko, rfl⟩ : ∃ ko : Nat, ko = k := ⟨_, rfl⟩
      go_loopw [84, 15] (fun i v wr => ∃ (k : Nat) (x : Int) (l : List Thing), k ≤ bl.length ∧ i = .int .i64 k ∧ v = .int .u64 x ∧ okW x ∧ okL l ∧ StP ga bw bh gr N (fun b => (w.heap.size ≤ b ∧ b ∉ [ga, bw, bh]) ∧ b < wr.heap.size) l wr ∧ w2.heap.size ≤ wr.heap.size ∧ Chg [] w wr) (fun i _ _ => bl.length - (intOf i).toNat)
      case atStart => exact ⟨0, 2, _, Nat.zero_le _, rfl, rfl, by decide, hol, hst, hcr2, hcr⟩
      case round =>
        obtain ⟨k, lv, l, hk, rfl, rfl, hlv, hol, ⟨es, hel, hIA, hIR⟩, hcr2, hcr⟩ := hrel
        by_cases hlt : k < bl.length
        case neg =>
          clear hlv hol hel hIA hIR
          go_wp2_with fail
          go_ret
          exact ⟨rfl, hcr.below⟩
        by_cases h80 : 80 ≤ k
        · obtain ⟨a, hak⟩ : ∃ a, bl[k]? = some a := ⟨_, List.getElem?_eq_getElem hlt⟩
          obtain ⟨ab, ao, rfl, hab, hcell⟩ := (hs'.grow hcr).pl (by omega) (by decide)
          have q0 := PAct.cell hcell hak 0 _ rfl
          rw [Nat.add_zero] at q0
          have q1 := PAct.cell hcell hak 1 _ rfl
          have q2 := PAct.cell hcell hak 2 _ rfl
          have t1 : decide ((k : Int) ≥ 80) = true := by simp; omega
          have HCR := Lib.hid hcr
          clear hcell hlv hol hel hIA hIR h80 hcr hok' hs' hst
          go_wp2_with fail
          go_ret
          exact ⟨rfl, (HCR.out.alloc _).below⟩
        have t0 : decide ((k : Int) ≥ 80) = false := by simp; omega
        obtain ⟨a, hak⟩ : ∃ a, bl[k]? = some a := ⟨_, List.getElem?_eq_getElem hlt⟩
        obtain ⟨ab, ao, rfl, hab, hcell⟩ := (hs'.grow hcr).pl (by omega) (by decide)
        have q0 := PAct.cell hcell hak 0 _ rfl
        rw [Nat.add_zero] at q0
        have q1 := PAct.cell hcell hak 1 _ rfl
        have q2 := PAct.cell hcell hak 2 _ rfl
        have hoka := hok' a (List.mem_of_getElem? hak)
        obtain ⟨q, hmin, m1, m2, _⟩ := min_nat a.lLen 4 4 rfl
        have hlc2 : a.lLen ≤ a.lCap := by rcases hoka.l with ⟨_, h1, h2, _⟩ | ⟨_, _, h, _⟩ <;> omega
        have hlq : (a.l.take q).length = q := by
          rcases hoka.l with ⟨_, h1, h2, h3⟩ | ⟨_, _, h, _, h2, _⟩
          · simp [h3]; omega
          · simp; omega
        have hoX : ∀ x ∈ a.l.take q, okW x := PAct.okX hoka q
        have hsrc : Src w 1 (.slice a.lA q a.lCap) q (nums .u64 (a.l.take q)) := hoka.l.src q m1 a.lCap
        have i1 : (0 : Int) ≤ (q : Int) := Int.natCast_nonneg _
        have i2 : (q : Int) ≤ (a.lCap : Int) := by omega
        have i3 : (q : Int) ≤ (a.lLen : Int) := by omega
        have hla := hoka.last
        clear hcell hoka
        -- the world behind the variable
        obtain ⟨O, hO⟩ : ∃ O, O = Obj.cells #[.int .i64 a.op, .slice a.lA a.lLen a.lCap, .int .u8 a.last] 34 := ⟨_, rfl⟩
        obtain ⟨W5, hW5⟩ : ∃ W5, W5 = wr.alloc O := ⟨_, rfl⟩
        have C5 : Chg [] wr W5 := by rw [hW5]; exact (Chg.refl _ _).alloc _
        have Z5 : W5.heap.size = wr.heap.size + 1 := by rw [hW5]; simp
        have X5 : W5.heap[wr.heap.size]? = some (.cells #[.int .i64 a.op, .slice a.lA a.lLen a.lCap, .int .u8 a.last] 34 (0, 0)) := by rw [hW5, hO]; exact blk_new rfl
        obtain ⟨R5, hR5⟩ : ∃ R5 : Nat → Prop, R5 = fun b => (w.heap.size ≤ b ∧ b ∉ [ga, bw, bh]) ∧ b ≠ wr.heap.size := ⟨_, rfl⟩
        have I5 : IsRf W5 R5 gr N es := (hIR.sub C5).mono (fun b hb => by rw [hR5]; exact ⟨hb.1, by have := hb.2; omega⟩)
        have A5 : IsAr W5 ga bw bh N l := hIA.sub C5
        have hww := hcr.size
        have N5 : ∀ b, W5.heap.size ≤ b → R5 b := fun b hb => by
          rw [hR5]
          exact ⟨⟨by omega, fun hm => by have := (hgr.out b hm).2; omega⟩, by omega⟩
        have RG : ∀ b, b ∈ [ga, bw, bh] → ¬ R5 b := fun b hb hr => by rw [hR5] at hr; exact hr.1.2 hb
        have RX : ¬ R5 wr.heap.size := fun hr => by rw [hR5] at hr; exact hr.2 rfl
        have RL : ∀ b, R5 b → w.heap.size ≤ b ∧ b ∉ [ga, bw, bh] := fun b hb => by rw [hR5] at hb; exact hb.1
        have XG : wr.heap.size ∉ [ga, bw, bh] := fun hm => by have := (hgr.out _ hm).2; omega
        have BG : ∀ b, b ∈ [ga, bw, bh] → b < W5.heap.size := fun b hb => by have := (hgr.out _ hb).2; omega
        clear hR5
        subst hel
        have CW : Chg [] w W5 := hcr.same C5
        have hsrc5 := hsrc.grow CW
        generalize hpx : wr.heap.size = px at *
        have hlx : px < W5.heap.size := by omega
        generalize hxs : a.l.take q = xs at *
        generalize a.lA = aA at *
        have HCW := Lib.hid CW
        have HCW2 : Hid (w2.heap.size ≤ W5.heap.size) := Lib.hid (by omega)
        have hk' := Lib.hid hk
        have hlt' := Lib.hid hlt
        have h0r := World.ownsRow_nil W5 W5.heap.size 36 1
        have tlt : decide (k < bl.length) = true := by simpa using hlt
        clear hak hcr hcr2 hsrc hIA hIR C5 hww CW Z5 hxs hok' hs' hst h80 hk hlt
        go_upto_region 19 with fail
        rw [← hO, ← hW5]
        clear hO hW5 hpx tlt t0
        have x0 : W5.cell? ⟨px, 0, none⟩ = some (.int .i64 a.op) := by rw [blk_cell X5]; rfl
        have x1 : W5.cell? ⟨px, 1, none⟩ = some (.slice aA a.lLen a.lCap) := by rw [blk_cell X5]; rfl
        go_wp2_with fail
        obtain ⟨wp, rfl⟩ : ∃ wp : World, wp = wr := ⟨_, rfl⟩
        go_loopw [99, 18] (fun i v wx => ∃ (m : Nat) (B : Option Addr) (b : Nat) (ys : List Int), m ≤ q ∧ i = .int .i64 m ∧ v = .slice B m b ∧ (∀ y ∈ ys, okW y) ∧ wx.ownsRow W5.heap.size 36 1 (.slice B m b) m (nums .u64 ys) ∧ Chg [] W5 wx) (fun i _ _ => q - (intOf i).toNat)
        case atStart => exact ⟨0, none, 0, [], Nat.zero_le _, rfl, rfl, (fun y hy => by cases hy), h0r, Chg.refl _ _⟩
        case round =>
          obtain ⟨m, B, b, ys, hm, rfl, rfl, hys, hor, hcx⟩ := hrel
          by_cases hml : m < q
          · have hx2 : wr.cell? ⟨px, 2, none⟩ = some (.int .u8 a.last) := hcx.cell (by rw [blk_cell X5]; rfl) (by simp)
            obtain ⟨sb, so, hA2, hsb, hsc⟩ := (hsrc5.grow hcx).pl (by omega) (by decide)
            obtain ⟨y, hy⟩ : ∃ y, xs[m]? = some y := ⟨_, List.getElem?_eq_getElem (by omega)⟩
            have hyc := hsc m (.int .u64 y) (by simp [nums, hy])
            have hyo := hoX y (List.mem_of_getElem? hy)
            clear hsc hsrc5 hy hoX x0 x1 hmin hlq
            subst hA2
            have HSN : Hid (∀ v : Value, Src (wr.alloc (.cells #[v] 36)) 1 (.slice (some ⟨wr.heap.size, 0, none⟩) 1 1) 1 [v]) := Lib.hid fun v => src_new [v] 36 1 1 1 wr.heap.size rfl rfl
            have HO := Lib.hid hor
            have HCX := Lib.hid hcx
            have HB : Hid (∀ b', b' ∈ ob (.slice B m b) → b' ∈ ([] : List Nat) ∨ W5.heap.size ≤ b') := Lib.hid (fun b' hb' => .inr (hor.lt b' (mem_ob.1 hb')).1)
            have hszx := hcx.size
            clear hor hcx
            go_upto_region 25 with fail
            all_goals go_wp2_with (at_builtin; refine app rfl (.tmp 111) (.tmp 113) 32 rfl W5.heap.size 36 _ 1 8 underWs infoW rfl (by decide) (by decide) _ m _ rfl (HO.out.alloc _) _ 1 _ rfl (HSN.out _) (by intro u hu; simp at hu; subst hu; rfl) (by simp; omega) (by omega) ?_; intro B2 c2 w3 ho3 hc3 _)
            all_goals go_roundw
            all_goals try (case measure => simp [intOf]; omega)
            case rel => exact ⟨m + 1, B2, c2, ys ++ [lv], by omega, by go_num, rfl, (fun z hz => by rcases List.mem_append.1 hz with h | h; exact hys z h; simp at h; subst h; exact hlv), by simpa [nums] using ho3, (HCX.out.alloc _).trans hc3 HB.out⟩
            case rel => exact ⟨m + 1, B2, c2, ys ++ [y], by omega, by go_num, rfl, (fun z hz => by rcases List.mem_append.1 hz with h | h; exact hys z h; simp at h; subst h; exact hyo), by simpa [nums] using ho3, (HCX.out.alloc _).trans hc3 HB.out⟩
          · obtain rfl : m = q := by omega
            have A5' := A5.sub hcx
            have RD := rd_own hor BG
            have DO := do_calls A5' a.op _ ys hys RD
            have hlen : ys.length = m := by have := hor.1; simpa [nums] using this
            have z0 : wr.cell? ⟨px, 0, none⟩ = some (.int .i64 a.op) := hcx.cell (by rw [blk_cell X5]; rfl) (by simp)
            have HR := fun (W : World) (c : Chg [ga, bw, bh] wr W) => rdo_calls ((I5.sub hcx).keep c RG) a.op B b ys hys (by
              rw [hlen]
              exact Src.own (own_keep hor c (fun b' hb' hm => by have := (hor.lt b' hb').1; have := BG _ hm; omega))) (fun b' hb' => N5 b' (by have := hcx.size; have := c.size; omega)) (fun ad had => by
                subst had
                rcases hor.2 with ⟨h1, _⟩ | ⟨g, cap, cur, h1, _⟩
                · simp at h1
                · simp only [Value.slice.injEq, Option.some.injEq] at h1; rw [h1.1])
            rw [hlen] at HR
            have POK := primA_ok N2 hol a.op ys hys
            have HCX := Lib.hid hcx
            have HXS := Lib.hid hcx.size
            have HA5 := Lib.hid A5
            have HX5 := Lib.hid X5
            clear A5 A5' hor RD hcx hys X5 I5 hsrc5 hoX h0r x0 x1 hmin hlq hlen
            generalize hpr : primA (es.map RE.th) N a.op ys = pr at *
            obtain ⟨pl, pv, pe⟩ := pr
            have HPR := Lib.hid hpr
            clear hpr
            simp only at DO HR POK
            go_upto_region 28 with (go_at_call 14; refine DO.mono ?_; rintro e w6 ⟨rfl, A6, c6⟩)
            have z1 : w6.cell? ⟨px, 0, none⟩ = some (.int .i64 a.op) := c6.cell z0 XG
            go_upto_region 29 with (go_at_call 15; refine (HR _ c6).mono ?_; rintro e WF ⟨rfl, ⟨esf, hesf, IF⟩, c7⟩)
            have AF := IsAr.keepR A6 c7 (RG _ (by simp)) (RG _ (by simp)) (RG _ (by simp))
            rw [← hesf] at AF
            obtain ⟨TA2, tc2, s0, s1, s2, _, _, _⟩ := rf_cell IF
            have U1 := fun n => used_calls (AF.drewN n)
            have e6 : Chg [] w w6 := (HCW.out.same HCX.out).trans c6 (fun b hb => .inr (hgr.out b hb).1)
            have eF : Chg [] w WF := chg_past e6 c7 (fun b hb => (RL b hb).1)
            have hsz : w2.heap.size ≤ WF.heap.size := by have := HCW2.out; have := HXS.out; have := c6.size; have := c7.size; omega
            have FIN : ∀ n, StP ga bw bh gr N (fun b => (w.heap.size ≤ b ∧ b ∉ [ga, bw, bh]) ∧ b < (WF.drewN n).heap.size) pl (WF.drewN n) ∧ w2.heap.size ≤ (WF.drewN n).heap.size ∧ Chg [] w (WF.drewN n) := fun n =>
              ⟨⟨esf, hesf, by rw [← hesf]; exact AF.drewN n, (IF.sub ((Chg.refl _ _).draw n)).shrink.mono (fun b hb => ⟨RL b hb.1, hb.2⟩)⟩, hsz, eF.draw n⟩
            have HFIN := Lib.hid FIN
            clear FIN eF e6 hsz AF IF A6 c6 c7 hesf z0 z1 DO HR
            go_quiet ((go_at_call 16; exact Calls.quiet_of_same ((U1 _).mono fun _ _ h => ⟨h.1, h.2.symm⟩)))
            by_cases h0 : pe = 0
            · have t1 : (pe == 0) = true := by simpa using h0
              clear h0
              go_wp2_with fail
              go_roundw
              case rel => exact ⟨k + 1, pv, pl, by have := hlt'.out; omega, by go_num, rfl, POK.2, POK.1, (HFIN.out _).1, (HFIN.out _).2.1, (HFIN.out _).2.2⟩
              case measure => have := hlt'.out; simp [intOf]; omega
            · have t1 : (pe == 0) = false := by simpa using h0
              clear h0
              go_wp2_with fail
              go_roundw
              case rel => exact ⟨k + 1, lv, pl, by have := hlt'.out; omega, by go_num, rfl, hlv, POK.1, (HFIN.out _).1, (HFIN.out _).2.1, (HFIN.out _).2.2⟩
              case measure => have := hlt'.out; simp [intOf]; omega
end Go.Proofs.Ytoofnpecofcjjaa.Prim

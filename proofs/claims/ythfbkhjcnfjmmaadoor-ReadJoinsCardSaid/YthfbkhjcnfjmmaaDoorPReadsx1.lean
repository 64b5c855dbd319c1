-- Written by xprint.py (a program of the prover's) over the kit's printer.
import Derived.Test.YthfbkhjcnfjmmaaDoorPReadsx0
namespace Go.Proofs.YthfbkhjcnfjmmaaDoor.PReads
open Go.RowKit Go.Proofs.YthfbkhjcnfjmmaaDoorW.PrintWords Go.Proofs.YthfbkhjcnfjmmaaDoorW.PrintLast Go.Proofs.YthfbkhjcnfjmmaaDoorW.PrintMore
attribute [local go_sem] max2_int min2_int max_two min_two max_three min_three max_four min_four   -- for this text's walks alone
set_option linter.unusedVariables false
set_option linter.unusedSimpArgs false

/-! ### read_Read: function 11 -/
def toN (x : Go.Proofs.YthfbkhjcnfjmmaaDoor.ReadP.Nd) : S32 := ⟨x.kind, x.pos, x.n, ⟨x.s.toArray⟩, x.l⟩
def ofN (x : S32) : Go.Proofs.YthfbkhjcnfjmmaaDoor.ReadP.Nd := ⟨x.f0, x.f1, x.f2, x.f3.data.toList, x.f4⟩
def read_Read.f (a0 : ByteArray) : Option (List (S32) × List Int × Int × Int) := match Go.Proofs.YthfbkhjcnfjmmaaDoor.ReadP.readF a0.data.toList with
  | .error (i, e) => some ([], [], i, e)
  | .ok (row, tops) => some (row.map toN, tops, 0, 0)
theorem R_ints {w : World} {base base0 : Nat} {ok : Nat → Prop} {v : Value} {l : List Int} (h : Go.Proofs.YthfbkhjcnfjmmaaDoor.ReadM.Ints w base v l) (hb : base0 ≤ base) (hok : ∀ k, v.ownBlock = some k → ok k) : (Kd.int .i64).R 3 w base0 ok v l :=
  Kd.R_of_own (Go.Proofs.YthfbkhjcnfjmmaaDoor.ReadM.own_low h hb) hok
theorem flat5 {α : Type} (f : α → List Value) (sz : Nat) (hf : ∀ a, (f a).length = sz) : ∀ (xs : List α) (j : Nat) (p : α), xs[j]? = some p → ((xs.flatMap f).drop (j * sz)).take sz = f p
  | [], j, p, h => by simp at h
  | x :: xs, 0, p, h => by
    have : x = p := by simpa using h
    subst this
    rw [List.flatMap_cons, Nat.zero_mul, List.drop_zero, ← hf x, List.take_left]
  | x :: xs, j + 1, p, h => by
    have ih := flat5 f sz hf xs j p (by simpa using h)
    rw [List.flatMap_cons, show (j + 1) * sz = (f x).length + j * sz from by rw [hf, Nat.add_mul, Nat.one_mul, Nat.add_comm], ← List.drop_drop, List.drop_left]
    exact ih
/-- which element's row a block is -/
def owner (rs : List (Go.Proofs.YthfbkhjcnfjmmaaDoor.ReadP.Nd × Value)) (k : Nat) : Nat := rs.findIdx fun p => p.2.ownBlock == some k
theorem owner_at : ∀ (rs : List (Go.Proofs.YthfbkhjcnfjmmaaDoor.ReadP.Nd × Value)) (j : Nat) (q : Go.Proofs.YthfbkhjcnfjmmaaDoor.ReadP.Nd × Value) (k : Nat), Go.Proofs.YthfbkhjcnfjmmaaDoor.ReadM.Apart (rs.map (·.2)) → rs[j]? = some q → q.2.ownBlock = some k → owner rs k = j
  | [], j, q, k, _, h, _ => by simp at h
  | p :: rs, 0, q, k, _, h, hk => by
    have : p = q := by simpa using h
    subst this
    unfold owner
    rw [List.findIdx_cons, hk]
    simp
  | p :: rs, j + 1, q, k, hA, h, hk => by
    have h' : rs[j]? = some q := by simpa using h
    obtain ⟨a1, a2⟩ := List.pairwise_cons.1 hA
    have hne : p.2.ownBlock ≠ some k := fun e => a1 q.2 (List.mem_map_of_mem (List.mem_of_getElem? h')) k e hk
    have ih := owner_at rs j q k a2 h' hk
    unfold owner at ih ⊢
    rw [List.findIdx_cons, ih, show (p.2.ownBlock == some k) = false from by simpa using hne]
    rfl
theorem S_nodes {w : World} {base base0 : Nat} {v0 v1 : Value} {rs : List (Go.Proofs.YthfbkhjcnfjmmaaDoor.ReadP.Nd × Value)} {tops : List Int} (hN : Go.Proofs.YthfbkhjcnfjmmaaDoor.ReadM.Nodes w base v0 rs) (hT : Go.Proofs.YthfbkhjcnfjmmaaDoor.ReadM.Ints w base v1 tops) (hI : ∀ p ∈ rs, Go.Proofs.YthfbkhjcnfjmmaaDoor.ReadM.Ints w base p.2 p.1.l) (hA : Go.Proofs.YthfbkhjcnfjmmaaDoor.ReadM.Apart (v1 :: rs.map (·.2))) (hb : base0 ≤ base) :
    Kd.S k32 32 w base0 (fun k_ => some k_ ≠ (v1 : Value).ownBlock) v0 ((rs.map (·.1)).map toN) := by
  have hne := Go.Proofs.YthfbkhjcnfjmmaaDoor.ReadM.own_ne hN hT (by decide)
  have hl : ((rs.map (·.1)).map toN).zipIdx.length = rs.length := by simp
  refine ⟨owner rs, fun k hk e => hne k hk e.symm, rs.flatMap Go.Proofs.YthfbkhjcnfjmmaaDoor.ReadM.nodeC, ?_, ?_, fun j p hj => ?_⟩
  · rw [hl]; exact Go.Proofs.YthfbkhjcnfjmmaaDoor.ReadM.own_low hN hb
  · rw [hl]; exact hN.1
  · rw [List.map_map, List.getElem?_zipIdx, List.getElem?_map] at hj
    cases hx : rs[j]? with
    | none => rw [hx] at hj; simp at hj
    | some q =>
      rw [hx] at hj
      have : (toN q.1, j) = p := by simpa using hj
      subst this
      have := flat5 Go.Proofs.YthfbkhjcnfjmmaaDoor.ReadM.nodeC 5 (fun _ => rfl) rs j q hx
      show (Kd.tag (owner rs) k32).M _ _ _ _ (((rs.flatMap Go.Proofs.YthfbkhjcnfjmmaaDoor.ReadM.nodeC).drop (j * 5)).take 5)
      rw [this]
      have hq := List.mem_of_getElem? hx
      refine k32_mkM w base0 _ (toN q.1) (R_ints (hI q hq) hb (fun k hk => ?_))
      have c1 : some k ≠ (v1 : Value).ownBlock := fun e => (List.pairwise_cons.1 hA).1 q.2 (List.mem_map_of_mem hq) k e.symm hk
      have c2 : some k ≠ (v0 : Value).ownBlock := fun e => Go.Proofs.YthfbkhjcnfjmmaaDoor.ReadM.own_ne hN (hI q hq) (by decide) k e.symm hk
      have c3 : owner rs k = j := owner_at rs j q k (List.pairwise_cons.1 hA).2 hx hk
      first | exact ⟨⟨c1, c2⟩, c3⟩ | exact ⟨⟨c1, c3⟩, c2⟩ | exact ⟨c3, c1, c2⟩ | exact ⟨⟨c1, c2⟩, c3.symm⟩
theorem read_Read.calls (a0 : ByteArray) (r1 : List (S32)) (r2 : List Int) (r3 : Int) (r4 : Int) (w : World) (h : read_Read.f a0 = some (r1, r2, r3, r4)) (hV : Aside0 (Go.Proofs.YthfbkhjcnfjmmaaDoor.LexC.Vars w) := by first | exact hV | exact ⟨Go.Proofs.YthfbkhjcnfjmmaaDoor.LexC.Vars.below hV.out (by repeat (first | (with_reducible first | exact HB.out | apply below_alloc | apply pw_below_drewN | apply below_drew1 | refine below_set ?_ (Aside0.out (by assumption))) | exact HB.out)) (Nat.le_refl _)⟩) :
    Calls Tryd.prog 11 #[.string a0] w fun e w' => ∃ v0_ v1_ : Value, e = .returned (.tuple #[v0_, v1_, .int .i64 r3, .int .i64 r4]) ∧ Kd.S k32 32 w' w.heap.size (fun k_ => some k_ ≠ (v1_ : Value).ownBlock) v0_ r1 ∧ Kd.R (Kd.int .i64) 3 w' w.heap.size (fun _ => True) v1_ r2 ∧ Below w.heap.size w w' := by
  unfold read_Read.f at h
  refine (Go.Proofs.YthfbkhjcnfjmmaaDoor.ReadM.read_calls a0 w hV.out).mono ?_
  rintro e w' ⟨⟨base, hbl, hp⟩, hb⟩
  cases hF : Go.Proofs.YthfbkhjcnfjmmaaDoor.ReadP.readF a0.data.toList with
  | error x =>
    obtain ⟨i, er⟩ := x
    rw [hF] at h hp
    simp only [Option.some.injEq, Prod.mk.injEq] at h
    obtain ⟨rfl, rfl, rfl, rfl⟩ := h
    exact ⟨_, _, hp, Kd.S_nil _ _ _ _ _, Kd.R_nil _ _ _ _ _, hb⟩
  | ok x =>
    obtain ⟨row, tops⟩ := x
    rw [hF] at h hp
    simp only [Option.some.injEq, Prod.mk.injEq] at h
    obtain ⟨rfl, rfl, rfl, rfl⟩ := h
    obtain ⟨v0, v1, rs, rfl, hrs, hN, hT, hI, hA⟩ := hp
    refine ⟨v0, v1, rfl, ?_, R_ints hT hbl (fun _ _ => trivial), hb⟩
    rw [← hrs]
    exact S_nodes hN hT hI hA hbl

/-! ### eddywheelref06_Ints: function 14 -/
def eddywheelref06_Ints.l0 : Nat → List Int → List Int → Int → Option (Bool)
  | 0, _, _, _ => none
  | k + 1, x0, x1, x5 => if x5 < (x0.length : Int) then (if 0 ≤ x5 then (if x5 < (x1.length : Int) then (if (rd x0 x5) = (rd x1 x5) then (eddywheelref06_Ints.l0 k x0 x1 (wrap64 (x5 + 1))) else (some false)) else (none)) else (none)) else (some true)
def eddywheelref06_Ints.f (k : Nat) (l0 : List Int) (l1 : List Int) : Option (Bool) := if (l0.length : Int) = (l1.length : Int) then (eddywheelref06_Ints.l0 k l0 l1 0) else (some false)
theorem eddywheelref06_Ints.mono_l : ∀ k, (∀ y0 y1 y2, LeO (eddywheelref06_Ints.l0 k y0 y1 y2) (eddywheelref06_Ints.l0 (k + 1) y0 y1 y2))
  | 0 => fun _ _ _ r h => by simp [eddywheelref06_Ints.l0] at h
  | k + 1 => by
    have ih0 := eddywheelref06_Ints.mono_l k
    · intro y0 y1 y2
      unfold eddywheelref06_Ints.l0
      repeat' first
      | (with_reducible exact ih0 _ _ _)
      | (with_reducible exact LeO.refl _)
      | (with_reducible exact LeO.none _)
      | (with_reducible refine LeO.ite ?_ ?_)
      | (with_reducible refine LeO.bind ?_ (fun _ => ?_))
      | exact ih0 _ _ _
      | exact LeO.none _
      | refine LeO.ite ?_ ?_
      | refine LeO.bind ?_ (fun _ => ?_)
theorem eddywheelref06_Ints.mono : ∀ a0 a1 k, LeO (eddywheelref06_Ints.f k a0 a1) (eddywheelref06_Ints.f (k + 1) a0 a1) := by
  intro a0 a1 k
  have ih0 := eddywheelref06_Ints.mono_l k
  unfold eddywheelref06_Ints.f
  repeat' first
      | (with_reducible exact ih0 _ _ _)
      | (with_reducible exact LeO.refl _)
      | (with_reducible exact LeO.none _)
      | (with_reducible refine LeO.ite ?_ ?_)
      | (with_reducible refine LeO.bind ?_ (fun _ => ?_))
      | exact ih0 _ _ _
      | exact LeO.none _
      | refine LeO.ite ?_ ?_
      | refine LeO.bind ?_ (fun _ => ?_)
set_option maxHeartbeats 8000000 in
set_option maxRecDepth 100000 in
theorem eddywheelref06_Ints.calls (k : Nat) (A0 : Option Addr) (c0 : Nat) (l0 : List Int) (A1 : Option Addr) (c1 : Nat) (l1 : List Int) (r : Bool) (w : World) (hr0 : Kd.C (Kd.int .i64) w A0 l0.length l0) (hc0 : l0.length ≤ c0) (hr1 : Kd.C (Kd.int .i64) w A1 l1.length l1) (hc1 : l1.length ≤ c1) (h : eddywheelref06_Ints.f k l0 l1 = some r) :
    Calls Tryd.prog 14 #[.slice A0 l0.length c0, .slice A1 l1.length c1] w fun e w' => e = .returned (.bool r) ∧ Drawn0 w w' := by
  have HR0 := Aside0.mk hr0
  have HC0 := Aside0.mk hc0
  clear hr0 hc0
  have HR1 := Aside0.mk hr1
  have HC1 := Aside0.mk hc1
  clear hr1 hc1
  have H : (if (l0.length : Int) = (l1.length : Int) then (eddywheelref06_Ints.l0 k l0 l1 0) else (some false)) = some r := h
  clear h
  by_cases c3 : (l0.length : Int) = (l1.length : Int)
  · rw [if_pos c3] at H
    have c3b0 : ((l0.length : Int) == (l1.length : Int)) = true := beq_iff_eq.mpr c3
    have c3b1 : ((l0.length : Int) != (l1.length : Int)) = false := bne_eq_false_iff_eq.mpr c3
    have c3b2 : (l0.length == l1.length) = true := by first | simpa using c3 | (simp at c3 ⊢; omega)
    clear c3
    have H' := Aside0.mk H
    clear H
    go_enter Tryd.func14, Tryd.ntmps14
    go_wp2
    repeat (go_quiet (fail); try go_wp2)
    go_loopg [5] k (fun kq v5 w' => ∃ (x5_1 : Int), v5 = .int .i64 x5_1 ∧ Aside0 (eddywheelref06_Ints.l0 kq l0 l1 x5_1 = some r) ∧ Aside0 (kq ≤ k) ∧ Drawn0 w w')
    case atStart => exact ⟨(0), (by first | rfl | (simp; done) | (simp [*]; done)), H', ⟨Nat.le_refl _⟩, by repeat (first | exact Drawn0.refl _ | apply Drawn0.step)⟩
    case round =>
      clear H'
      try clear c1
      try clear p2
      try clear c3
      try clear c3b0
      try clear c3b1
      try clear c3b2
      obtain ⟨x5_1, rfl, HA, HK1, ⟨m1, rfl⟩⟩ := hrel
      cases gk with
      | zero => exact absurd HA.out (by simp [eddywheelref06_Ints.l0])
      | succ k1 =>
        have H := HA.out
        clear HA
        simp only [eddywheelref06_Ints.l0] at H
        by_cases c4 : x5_1 < (l0.length : Int)
        · rw [if_pos c4] at H
          have c4b0 : decide (x5_1 < (l0.length : Int)) = true := decide_eq_true c4
          clear c4
          by_cases c5 : 0 ≤ x5_1
          · rw [if_pos c5] at H
            have c5b0 : decide (0 ≤ x5_1) = true := decide_eq_true c5
            clear c5
            by_cases c6 : x5_1 < (l1.length : Int)
            · rw [if_pos c6] at H
              have c6b0 : decide (x5_1 < (l1.length : Int)) = true := decide_eq_true c6
              clear c6
              by_cases c7 : (rd l0 x5_1) = (rd l1 x5_1)
              · rw [if_pos c7] at H
                have c7b0 : ((rd l0 x5_1) == (rd l1 x5_1)) = true := beq_iff_eq.mpr c7
                have c7b1 : ((rd l0 x5_1) != (rd l1 x5_1)) = false := bne_eq_false_iff_eq.mpr c7
                clear c7
                have H' := Aside0.mk H
                clear H
                have p101 : 0 ≤ (x5_1 : Int) := of_decide_eq_true (by first | (with_reducible assumption) | assumption)
                have q101 : x5_1 < (l0.length : Int) := of_decide_eq_true (by first | (with_reducible assumption) | assumption)
                obtain ⟨ad101, e101, hx101_0⟩ := Kd.at_int HR0.out x5_1 p101 q101
                cases e101
                replace p101 := eq_true p101
                replace q101 := eq_true q101
                have p102 : 0 ≤ (x5_1 : Int) := of_decide_eq_true (by first | (with_reducible assumption) | assumption)
                have q102 : x5_1 < (l1.length : Int) := of_decide_eq_true (by first | (with_reducible assumption) | assumption)
                obtain ⟨ad102, e102, hx102_0⟩ := Kd.at_int HR1.out x5_1 p102 q102
                cases e102
                replace p102 := eq_true p102
                replace q102 := eq_true q102
                go_wp2
                repeat (go_quiet (fail); try go_wp2)
                go_roundg k1
                case measure => have := HK1.out; omega
                case rel => exact ⟨(wrap64 (x5_1 + 1)), (by first | rfl | (simp; done) | (simp [*]; done)), H', ⟨by have := HK1.out; omega⟩, by repeat (first | exact Drawn0.refl _ | apply Drawn0.step)⟩
              · rw [if_neg c7] at H
                have c7b0 : ((rd l0 x5_1) == (rd l1 x5_1)) = false := beq_eq_false_iff_ne.mpr c7
                have c7b1 : ((rd l0 x5_1) != (rd l1 x5_1)) = true := bne_iff_ne.mpr c7
                obtain rfl := Option.some.inj H
                have p101 : 0 ≤ (x5_1 : Int) := of_decide_eq_true (by first | (with_reducible assumption) | assumption)
                have q101 : x5_1 < (l0.length : Int) := of_decide_eq_true (by first | (with_reducible assumption) | assumption)
                obtain ⟨ad101, e101, hx101_0⟩ := Kd.at_int HR0.out x5_1 p101 q101
                cases e101
                replace p101 := eq_true p101
                replace q101 := eq_true q101
                have p102 : 0 ≤ (x5_1 : Int) := of_decide_eq_true (by first | (with_reducible assumption) | assumption)
                have q102 : x5_1 < (l1.length : Int) := of_decide_eq_true (by first | (with_reducible assumption) | assumption)
                obtain ⟨ad102, e102, hx102_0⟩ := Kd.at_int HR1.out x5_1 p102 q102
                cases e102
                replace p102 := eq_true p102
                replace q102 := eq_true q102
                go_wp2
                repeat (go_quiet (fail); try go_wp2)
                go_ret
                exact ⟨by first | rfl | (simp; done) | (simp [*]; done), by repeat (first | exact Drawn0.refl _ | apply Drawn0.step)⟩
            · rw [if_neg c6] at H
              exact absurd H (by simp)
          · rw [if_neg c5] at H
            exact absurd H (by simp)
        · rw [if_neg c4] at H
          have c4b0 : decide (x5_1 < (l0.length : Int)) = false := decide_eq_false c4
          clear c4
          obtain rfl := Option.some.inj H
          go_wp2
          repeat (go_quiet (fail); try go_wp2)
          go_ret
          exact ⟨by first | rfl | (simp; done) | (simp [*]; done), by repeat (first | exact Drawn0.refl _ | apply Drawn0.step)⟩
  · rw [if_neg c3] at H
    have c3b0 : ((l0.length : Int) == (l1.length : Int)) = false := beq_eq_false_iff_ne.mpr c3
    have c3b1 : ((l0.length : Int) != (l1.length : Int)) = true := bne_iff_ne.mpr c3
    have c3b2 : (l0.length == l1.length) = false := by first | simpa using c3 | (simp at c3 ⊢; omega)
    obtain rfl := Option.some.inj H
    go_enter Tryd.func14, Tryd.ntmps14
    go_wp2
    repeat (go_quiet (fail); try go_wp2)
    go_ret
    exact ⟨by first | rfl | (simp; done) | (simp [*]; done), by repeat (first | exact Drawn0.refl _ | apply Drawn0.step)⟩

/-! ### eddywheelref06_Same: function 13 -/
def eddywheelref06_Same.f (l0 : List (S32)) (l1 : List (S32)) : Option Bool := if l0.map ofN = l1.map ofN ∧ l0.length ≤ 1000000 ∧ (∀ x ∈ l0, x.f4.length ≤ 1000000) then some true else none
theorem RI_C {w : World} {A : Option Addr} {c : Nat} {l : List Int} (h : (Kd.int .i64).C w A l.length l) (hc : l.length ≤ c) : Go.Proofs.YthfbkhjcnfjmmaaDoor.ReadM.RI w (.slice A l.length c) l := by
  refine ⟨A, c, rfl, hc, fun hp => ?_⟩
  obtain ⟨ys, hr, hs, _⟩ := Go.Proofs.YthfbkhjcnfjmmaaDoor.Lib2.C_src (c := c) h hp
  obtain ⟨b, o, h1, _, h2⟩ := hs.pl hp (by decide)
  refine ⟨b, o, h1, fun j x hj => h2 j _ ?_⟩
  have := hr.2 j x hj
  have e : (ys.drop (j * 1)).take 1 = [.int .i64 x] := this
  have e2 := congrArg (fun l => l[0]?) e
  simp only [List.getElem?_cons_zero] at e2
  rw [List.getElem?_take_of_lt (by omega), List.getElem?_drop, Nat.mul_one, Nat.add_zero] at e2
  exact e2
theorem RN_C {w : World} {A : Option Addr} {c : Nat} {l : List (S32)} (h : Kd.C k32 w A l.length l) (hc : l.length ≤ c) : ∃ rs : List (Go.Proofs.YthfbkhjcnfjmmaaDoor.ReadP.Nd × Value), rs.map (·.1) = l.map ofN ∧ Go.Proofs.YthfbkhjcnfjmmaaDoor.ReadM.RN w (.slice A l.length c) rs := by
  have hl : (l.map ofN).length = l.length := List.length_map ..
  have := Go.Proofs.YthfbkhjcnfjmmaaDoor.ReadM.RN_of (w := w) (A := A) (c := c) (l := l.map ofN) (by rw [hl]; exact hc) (fun hp => by
    rw [hl] at hp
    obtain ⟨ys, hr, hs, _⟩ := Go.Proofs.YthfbkhjcnfjmmaaDoor.Lib2.C_src (c := c) h hp
    obtain ⟨b, o, h1, _, h2⟩ := hs.pl hp (by decide)
    refine ⟨b, o, h1, fun j x hj => ?_⟩
    rw [List.getElem?_map] at hj
    cases hx : l[j]? with
    | none => rw [hx] at hj; simp at hj
    | some y =>
      rw [hx] at hj
      have : ofN y = x := by simpa using hj
      subst this
      have hk := hr.2 j y hx
      obtain ⟨A4, c4, he, l4, g4⟩ := k32_open hk
      have g : ∀ i, i < 5 → ys[j * 5 + i]? = ([.int .u8 y.f0, .int .i64 y.f1, .int .i64 y.f2, .string y.f3, .slice A4 y.f4.length c4] : List Value)[i]? := fun i hi => by
        rw [← he, List.getElem?_take_of_lt (by exact hi), List.getElem?_drop]
        rfl
      have hs3 : y.f3 = ⟨y.f3.data.toList.toArray⟩ := by cases y.f3; simp
      refine ⟨.slice A4 y.f4.length c4, h2 (j * 5 + 0) _ (by rw [g 0 (by omega)]; rfl), h2 (j * 5 + 1) _ (by rw [g 1 (by omega)]; rfl), h2 (j * 5 + 2) _ (by rw [g 2 (by omega)]; rfl), ?_, h2 (j * 5 + 4) _ (by rw [g 4 (by omega)]; rfl), RI_C g4 l4⟩
      have := h2 (j * 5 + 3) (.string y.f3) (by rw [g 3 (by omega)]; rfl)
      rw [hs3] at this
      exact this)
  rw [hl] at this
  exact this
theorem eddywheelref06_Same.calls (A0 : Option Addr) (c0 : Nat) (l0 : List (S32)) (A1 : Option Addr) (c1 : Nat) (l1 : List (S32)) (r : Bool) (w : World) (hr0 : Kd.C k32 w A0 l0.length l0) (hc0 : l0.length ≤ c0) (hr1 : Kd.C k32 w A1 l1.length l1) (hc1 : l1.length ≤ c1) (h : eddywheelref06_Same.f l0 l1 = some r) :
    Calls Tryd.prog 13 #[.slice A0 l0.length c0, .slice A1 l1.length c1] w fun e w' => e = .returned (.bool r) ∧ Below w.heap.size w w' := by
  unfold eddywheelref06_Same.f at h
  split at h
  · rename_i hh
    obtain ⟨h1, h2, h3⟩ := hh
    injection h with h
    subst h
    obtain ⟨rs0, e0, n0⟩ := RN_C hr0 hc0
    obtain ⟨rs1, e1, n1⟩ := RN_C hr1 hc1
    refine (Go.Proofs.YthfbkhjcnfjmmaaDoor.ReadM.nodes_same rs0 rs1 _ _ w n0 n1 (by rw [e0, e1, h1]) ?_ ?_).mono ?_
    · have := congrArg List.length e0
      simp at this
      omega
    · intro p hp
      have hm : p.1 ∈ rs0.map (·.1) := List.mem_map_of_mem hp
      rw [e0] at hm
      obtain ⟨x, hx, hxe⟩ := List.mem_map.1 hm
      rw [← hxe]
      exact h3 x hx
    · rintro e w' ⟨rfl, m, rfl⟩
      exact ⟨rfl, Go.Proofs.YthfbkhjcnfjmmaaDoor.Heap.below_draw (Below.refl _ _) m⟩
  · cases h

/-! ### eddywheellaw06_shown: function 10 -/
def eddywheellaw06_shown.f : Option (Bool) := some true
theorem eddywheellaw06_shown.calls (r : Bool) (w : World) (h : eddywheellaw06_shown.f = some r) (hV : Aside0 (Go.Proofs.YthfbkhjcnfjmmaaDoor.LexC.Vars w) := by first | exact hV | exact ⟨Go.Proofs.YthfbkhjcnfjmmaaDoor.LexC.Vars.below hV.out (by repeat (first | (with_reducible first | exact HB.out | apply below_alloc | apply pw_below_drewN | apply below_drew1 | refine below_set ?_ (Aside0.out (by assumption))) | exact HB.out)) (Nat.le_refl _)⟩) :
    Calls Tryd.prog 10 #[] w fun e w' => e = .returned (.bool r) ∧ Below w.heap.size w w' := by
  injection h with h
  subst h
  exact Go.Proofs.YthfbkhjcnfjmmaaDoor.ReadM.shown_calls w hV.out

end Go.Proofs.YthfbkhjcnfjmmaaDoor.PReads

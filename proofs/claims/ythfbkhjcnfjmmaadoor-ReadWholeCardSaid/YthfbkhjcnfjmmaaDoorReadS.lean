/- Contracts of Ints and Same at rows that are the same; each states its conditions. -/
import Derived.Test.YthfbkhjcnfjmmaaDoorReadC6
namespace Go.Proofs.YthfbkhjcnfjmmaaDoor.ReadM
open Go Go.RowKit Go.Proofs.YthfbkhjcnfjmmaaDoor.Heap Go.Proofs.YthfbkhjcnfjmmaaDoor.Own Go.Proofs.YthfbkhjcnfjmmaaDoor.ReadP
open Go.Proofs.YthfbkhjcnfjmmaaDoorW.PrintWords (Aside0 below_then below_alloc)
/-- a slice that reads as numbers -/
def RI (w : World) (v : Value) (l : List Int) : Prop := ∃ A c, v = .slice A l.length c ∧ l.length ≤ c ∧ (0 < l.length → ∃ b o, A = some ⟨b, o, none⟩ ∧ ∀ j x, l[j]? = some x → w.cell? ⟨b, o + j, none⟩ = some (.int .i64 x))
/-- a slice that reads as data -/
def RN (w : World) (v : Value) (rs : List (Nd × Value)) : Prop := ∃ A c, v = .slice A rs.length c ∧ rs.length ≤ c ∧ (0 < rs.length → ∃ b o, A = some ⟨b, o, none⟩ ∧ ∀ (j : Nat) p, rs[j]? = some p → w.cell? ⟨b, o + j * 5, none⟩ = some (.int .u8 p.1.kind) ∧ w.cell? ⟨b, o + j * 5 + 1, none⟩ = some (.int .i64 p.1.pos) ∧ w.cell? ⟨b, o + j * 5 + 2, none⟩ = some (.int .i64 p.1.n) ∧ w.cell? ⟨b, o + j * 5 + 3, none⟩ = some (.string ⟨p.1.s.toArray⟩) ∧ w.cell? ⟨b, o + j * 5 + 4, none⟩ = some p.2) ∧ ∀ p ∈ rs, RI w p.2 p.1.l
theorem RI.chg {w w' : World} {v : Value} {l : List Int} (h : RI w v l) (k : Chg [] w w') : RI w' v l := by
  obtain ⟨A, c, h1, h2, h3⟩ := h
  exact ⟨A, c, h1, h2, fun hp => by
    obtain ⟨b, o, h4, h5⟩ := h3 hp
    exact ⟨b, o, h4, fun j x hj => k.cell (h5 j x hj) (by simp)⟩⟩
theorem RN.chg {w w' : World} {v : Value} {rs : List (Nd × Value)} (h : RN w v rs) (k : Chg [] w w') : RN w' v rs := by
  obtain ⟨A, c, h1, h2, h3, h6⟩ := h
  refine ⟨A, c, h1, h2, fun hp => ?_, fun p hp => (h6 p hp).chg k⟩
  obtain ⟨b, o, h4, h5⟩ := h3 hp
  refine ⟨b, o, h4, fun j x hj => ?_⟩
  obtain ⟨a1, a2, a3, a4, a5⟩ := h5 j x hj
  exact ⟨k.cell a1 (by simp), k.cell a2 (by simp), k.cell a3 (by simp), k.cell a4 (by simp), k.cell a5 (by simp)⟩
theorem own_cap {w : World} {base e size n c : Nat} {A : Option Addr} {xs : List Value} (h : w.ownsRow base e size (.slice A n c) n xs) : n ≤ c := by
  rcases h.2 with ⟨h1, h2⟩ | ⟨g, cap, cur, h1, _, _, h2, _⟩
  · omega
  · simp only [Value.slice.injEq] at h1
    obtain ⟨_, _, rfl⟩ := h1
    exact h2
theorem Ints.ri {w : World} {base : Nat} {v : Value} {l : List Int} (h : Ints w base v l) : RI w v l := by
  obtain ⟨A, c, rfl⟩ := own_slice h
  refine ⟨A, c, rfl, own_cap h, fun hp => ?_⟩
  obtain ⟨b, o, h1, _, h2⟩ := (Src.own h).pl hp (by decide)
  exact ⟨b, o, h1, fun j x hj => h2 j _ (by simp [nums, hj])⟩
theorem flat5 (f : (Nd × Value) → List Value) (hf : ∀ p, (f p).length = 5) : ∀ (ts : List (Nd × Value)) (k : Nat) (t : Nd × Value), ts[k]? = some t → ∀ i, i < 5 → (ts.flatMap f)[k * 5 + i]? = (f t)[i]?
  | [], k, t, h, i, hi => by simp at h
  | x :: ts, 0, t, h, i, hi => by
    have : x = t := by simpa using h
    subst this
    rw [List.flatMap_cons, Nat.zero_mul, Nat.zero_add, List.getElem?_append_left (by rw [hf]; omega)]
  | x :: ts, k + 1, t, h, i, hi => by
    rw [List.flatMap_cons, List.getElem?_append_right (by rw [hf]; omega), hf, show (k + 1) * 5 + i - 5 = k * 5 + i from by omega]
    exact flat5 f hf ts k t (by simpa using h) i hi
theorem Nodes.rn {w : World} {base : Nat} {v : Value} {rs : List (Nd × Value)} (h : Nodes w base v rs) (hi : ∀ p ∈ rs, Ints w base p.2 p.1.l) : RN w v rs := by
  obtain ⟨A, c, rfl⟩ := own_slice h
  refine ⟨A, c, rfl, own_cap h, fun hp => ?_, fun p hp => (hi p hp).ri⟩
  obtain ⟨b, o, h1, _, h2⟩ := (Src.own h).pl hp (by decide)
  refine ⟨b, o, h1, fun j p hj => ?_⟩
  have f := flat5 nodeC (fun _ => rfl) rs j p hj
  exact ⟨h2 (j * 5 + 0) _ (by rw [f 0 (by omega)]; rfl), h2 (j * 5 + 1) _ (by rw [f 1 (by omega)]; rfl), h2 (j * 5 + 2) _ (by rw [f 2 (by omega)]; rfl), h2 (j * 5 + 3) _ (by rw [f 3 (by omega)]; rfl), h2 (j * 5 + 4) _ (by rw [f 4 (by omega)]; rfl)⟩
set_option maxHeartbeats 2000000 in
/-- rows of the same numbers are the same -/
theorem ints_same (l : List Int) (v1 v2 : Value) (w : World) (h1 : RI w v1 l) (h2 : RI w v2 l) (hl : l.length ≤ 1000000) :
    Calls Tryd.prog 14 #[v1, v2] w fun e w' => e = .returned (.bool true) ∧ ∃ m, w' = w.drewN m := by
  obtain ⟨A1, c1, rfl, g1, r1⟩ := h1
  obtain ⟨A2, c2, rfl, g2, r2⟩ := h2
  have t0 : ((l.length : Int) != (l.length : Int)) = false := by simp
  have bl : (l.length : Int) ≤ 1000000 := by omega
  have R1 := Lib.hid r1
  have R2 := Lib.hid r2
  clear r1 r2
  go_enter Tryd.func14, Tryd.ntmps14
  go_wp2
  go_loopw [5] (fun i wr => ∃ k : Nat, i = .int .i64 k ∧ k ≤ l.length ∧ Hid (∃ m, wr = w.drewN m)) (fun i _ => l.length - (intOf6 i).toNat)
  case atStart => exact ⟨0, rfl, Nat.zero_le _, ⟨0, rfl⟩⟩
  case round =>
    obtain ⟨k, rfl, hk, HW⟩ := hrel
    by_cases hkl : k < l.length
    · have e0 : decide ((k : Int) < (l.length : Int)) = true := decide_eq_true (by omega)
      have e0' : decide (k < l.length) = true := decide_eq_true hkl
      obtain ⟨m, hm⟩ := HW.out
      obtain ⟨b1, o1, rfl, q1⟩ := R1.out (by omega)
      obtain ⟨b2, o2, rfl, q2⟩ := R2.out (by omega)
      obtain ⟨x, hx⟩ : ∃ x, l[k]? = some x := ⟨_, List.getElem?_eq_getElem hkl⟩
      have y1 : wr.cell? ⟨b1, o1 + k, none⟩ = some (.int .i64 x) := by rw [hm]; exact q1 k x hx
      have y2 : wr.cell? ⟨b2, o2 + k, none⟩ = some (.int .i64 x) := by rw [hm]; exact q2 k x hx
      have p0 : (0 : Int) ≤ (k : Int) := by omega
      have p1 : (k : Int) < (l.length : Int) := by omega
      have HM := Lib.hid hm
      clear q1 q2 hx hm HW
      go_wp2
      go_quiet (fail)
      go_wp2
      go_roundw
      case rel => exact ⟨k + 1, by simp, by omega, ⟨_, by rw [HM.out, World.drewN_drewN]⟩⟩
      case measure => simp [intOf6]; omega
    · have e0 : decide ((k : Int) < (l.length : Int)) = false := decide_eq_false (by omega)
      have e0' : decide (k < l.length) = false := decide_eq_false hkl
      go_wp2
      go_ret
      exact ⟨rfl, HW.out⟩
set_option maxHeartbeats 4000000 in
set_option maxRecDepth 100000 in
/-- rows of the same data are the same -/
theorem nodes_same (rs1 rs2 : List (Nd × Value)) (v1 v2 : Value) (w : World) (h1 : RN w v1 rs1) (h2 : RN w v2 rs2) (he : rs1.map (·.1) = rs2.map (·.1)) (hl : rs1.length ≤ 1000000) (hl2 : ∀ p ∈ rs1, p.1.l.length ≤ 1000000) :
    Calls Tryd.prog 13 #[v1, v2] w fun e w' => e = .returned (.bool true) ∧ ∃ m, w' = w.drewN m := by
  have hlen : rs2.length = rs1.length := by have := congrArg List.length he; simpa using this.symm
  obtain ⟨A1, c1, rfl, g1, r1, i1⟩ := h1
  obtain ⟨A2, c2, rfl, g2, r2, i2⟩ := h2
  rw [hlen] at g2 r2 ⊢
  have t0 : ((rs1.length : Int) != (rs1.length : Int)) = false := by simp
  have bl : (rs1.length : Int) ≤ 1000000 := by omega
  have R1 := Lib.hid r1
  have R2 := Lib.hid r2
  have I1 := Lib.hid i1
  have I2 := Lib.hid i2
  have HE := Lib.hid he
  have HL2 := Lib.hid hl2
  have HLEN := Lib.hid hlen
  clear r1 r2 i1 i2 he hl2 hlen
  generalize hn : rs1.length = n at *
  have HN := Lib.hid hn
  clear hn
  go_enter Tryd.func13, Tryd.ntmps13
  go_wp2
  go_loopw [5] (fun i wr => ∃ k : Nat, i = .int .i64 k ∧ k ≤ n ∧ Hid (∃ m, wr = w.drewN m)) (fun i _ => n - (intOf6 i).toNat)
  case atStart => exact ⟨0, rfl, Nat.zero_le _, ⟨0, rfl⟩⟩
  case round =>
    obtain ⟨k, rfl, hk, HW⟩ := hrel
    by_cases hkl : k < n
    · have e0 : decide ((k : Int) < (n : Int)) = true := decide_eq_true (by omega)
      have e0' : decide (k < n) = true := decide_eq_true hkl
      obtain ⟨m, hm⟩ := HW.out
      obtain ⟨b1, o1, rfl, q1⟩ := R1.out (by omega)
      obtain ⟨b2, o2, rfl, q2⟩ := R2.out (by omega)
      obtain ⟨p, hp⟩ : ∃ p, rs1[k]? = some p := ⟨_, List.getElem?_eq_getElem (by rw [show rs1.length = n from HN]; exact hkl)⟩
      obtain ⟨p', hp'⟩ : ∃ p, rs2[k]? = some p := ⟨_, List.getElem?_eq_getElem (by rw [show rs2.length = n from HLEN]; exact hkl)⟩
      have hpp : p.1 = p'.1 := by
        have e1 : (rs1.map (·.1))[k]? = some p.1 := by rw [List.getElem?_map, hp]; rfl
        have e2 : (rs2.map (·.1))[k]? = some p'.1 := by rw [List.getElem?_map, hp']; rfl
        rw [show rs1.map (·.1) = rs2.map (·.1) from HE, e2] at e1
        injection e1 with e1; exact e1.symm
      obtain ⟨a0, a1, a2, a3, a4⟩ := q1 k p hp
      obtain ⟨d0, d1, d2, d3, d4⟩ := q2 k p' hp'
      have hi1 := I1.out p (List.mem_of_getElem? hp)
      have hi2 := I2.out p' (List.mem_of_getElem? hp')
      have hil := HL2.out p (List.mem_of_getElem? hp)
      obtain ⟨x, L1⟩ := p
      obtain ⟨x', L2⟩ := p'
      simp only at hpp
      subst hpp
      simp only at a0 a1 a2 a3 a4 d0 d1 d2 d3 d4 hi1 hi2 hil
      have IC := Lib.hid (fun W (k : Chg [] w W) => ints_same x.l L1 L2 W (hi1.chg k) (hi2.chg k) hil)
      have W0 : Chg [] w wr := by rw [hm]; exact (Chg.refl [] w).draw m
      have KW := Lib.hid W0
      have a0 := W0.cell a0 (by simp)
      have a1 := W0.cell a1 (by simp)
      have a2 := W0.cell a2 (by simp)
      have a3 := W0.cell a3 (by simp)
      have a4 := W0.cell a4 (by simp)
      have d0 := W0.cell d0 (by simp)
      have d1 := W0.cell d1 (by simp)
      have d2 := W0.cell d2 (by simp)
      have d3 := W0.cell d3 (by simp)
      have d4 := W0.cell d4 (by simp)
      have p0 : (0 : Int) ≤ (k : Int) := by omega
      have p1 : (k : Int) < (n : Int) := by omega
      have HM := Lib.hid hm
      clear q1 q2 hp hp' hm HW hi1 hi2 hil W0
      go_wp2
      go_quiet ((go_at_call 14; exact Calls.quiet_of (IC.out _ (KW.out.draw _))))
      go_wp2
      go_roundw
      case rel => exact ⟨k + 1, by simp, by omega, ⟨_, by rw [HM.out, World.drewN_drewN]⟩⟩
      case measure => simp [intOf6]; omega
    · have e0 : decide ((k : Int) < (n : Int)) = false := decide_eq_false (by omega)
      have e0' : decide (k < n) = false := decide_eq_false hkl
      go_wp2
      go_ret
      exact ⟨rfl, HW.out⟩
end Go.Proofs.YthfbkhjcnfjmmaaDoor.ReadM

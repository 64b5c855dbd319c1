/- Contracts of Kind, Len and Get of the arena of the reference; each states its conditions. -/
import Derived.Test.YtoofnpecofcjjaaRefF
namespace Go.Proofs.Ytoofnpecofcjjaa.Rf
open Go Go.RowKit Go.Proofs.Ytoofnpecofcjjaa.Heap Go.Proofs.Ytoofnpecofcjjaa.Word Go.Proofs.Ytoofnpecofcjjaa.Own Go.Proofs.Ytoofnpecofcjjaa.Ar
section
variable {w : World} {R : Nat → Prop} {g size : Nat} {es : List RE} (h : IsRf w R g size es) (x : Int) (h0 : 0 ≤ x) (h8 : x < 18446744073709551616)
include h h0 h8
theorem rfind_at (o : Thing) (hp : place (es.map RE.th) x = some o) :
    Calls Try.prog 41 #[.pointer (some ⟨g, 0, none⟩), .int .u64 x] w fun e w' => w = w' ∧ ∃ (j : Nat) (a : RE), es[j]? = some a ∧ a.th = o ∧ e = .returned (.int .i64 j) ∧ a.pos = (x / 8).toNat := by
  unfold place at hp
  by_cases hc : x % 8 = 1 ∧ x / 8 < 1099511627776
  · rw [if_pos hc, look_es h.pos, Option.map_eq_some_iff] at hp
    obtain ⟨a, ha, hth⟩ := hp
    have ht : toP 1 x = (x / 8, true) := by unfold toP; rw [if_pos ⟨.inl rfl, hc.1, hc.2⟩]
    have hpos : a.pos = 0 + (x / 8).toNat := by simpa using List.find?_some ha
    obtain ⟨j, hj⟩ := List.mem_iff_getElem?.1 (List.mem_of_find?_eq_some ha)
    refine (find_run h x _ _ h0 h8 ht).mono ?_
    rintro e w' ⟨rfl, lo, hlo, hA, hB, r, rfl, hr⟩
    have hjl : ¬ j < lo := fun hl => by have := hA j a hj hl; omega
    have hjlt : j < es.length := (List.getElem?_eq_some_iff.1 hj).1
    obtain ⟨a0, ha0⟩ : ∃ a0, es[lo]? = some a0 := ⟨_, List.getElem?_eq_getElem (by omega)⟩
    have hn := hB lo a0 ha0 (Nat.le_refl _)
    have hlj : lo = j := by
      by_cases hlt : lo < j
      · have := (okAt_lt h.pos lo j a0 a ha0 hj hlt).1; omega
      · omega
    subst hlj
    rw [hj] at ha0; cases ha0
    rcases hr with ⟨_, rfl, _⟩ | ⟨_, hn⟩
    · exact ⟨rfl, lo, a, hj, hth, rfl, by omega⟩
    · exact absurd ⟨rfl, a, hj, by omega⟩ hn
  · rw [if_neg hc] at hp; cases hp
theorem rfind_some (o : Thing) (hp : place (es.map RE.th) x = some o) :
    Calls Try.prog 41 #[.pointer (some ⟨g, 0, none⟩), .int .u64 x] w fun e w' => w = w' ∧ ∃ (j : Nat) (a : RE), es[j]? = some a ∧ a.th = o ∧ e = .returned (.int .i64 j) :=
  (rfind_at h x h0 h8 o hp).mono fun _ _ ⟨h1, j, a, h2, h3, h4, _⟩ => ⟨h1, j, a, h2, h3, h4⟩
theorem rfind_none (hp : place (es.map RE.th) x = none) :
    Calls Try.prog 41 #[.pointer (some ⟨g, 0, none⟩), .int .u64 x] w fun e w' => w = w' ∧ e = .returned (.int .i64 (-1)) := by
  unfold place at hp
  by_cases hc : x % 8 = 1 ∧ x / 8 < 1099511627776
  · rw [if_pos hc, look_es h.pos, Option.map_eq_none_iff, List.find?_eq_none] at hp
    have ht : toP 1 x = (x / 8, true) := by unfold toP; rw [if_pos ⟨.inl rfl, hc.1, hc.2⟩]
    refine (find_run h x _ _ h0 h8 ht).mono ?_
    rintro e w' ⟨rfl, lo, hlo, hA, hB, r, rfl, hr⟩
    rcases hr with ⟨_, _, a, ha, hn⟩ | ⟨rfl, _⟩
    · have := hp a (List.mem_of_getElem? ha)
      simp at this; omega
    · exact ⟨rfl, rfl⟩
  · have ht : toP 1 x = (0, false) := by unfold toP; rw [if_neg (fun h => hc h.2)]
    refine (find_run h x _ _ h0 h8 ht).mono ?_
    rintro e w' ⟨rfl, lo, hlo, hA, hB, r, rfl, hr⟩
    rcases hr with ⟨h1, _⟩ | ⟨rfl, _⟩
    · cases h1
    · exact ⟨rfl, rfl⟩
theorem rkind_calls : Calls Try.prog 29 #[.pointer (some ⟨g, 0, none⟩), .int .u64 x] w fun e w' => e = .returned (.int .i64 (kindA (es.map RE.th) x)) ∧ w = w' := by
  unfold kindA
  cases hp : place (es.map RE.th) x with
  | some o =>
    simp only []
    have F := rfind_some h x h0 h8 o hp
    obtain ⟨A, c, c0, c1, c2, hlc, hcm, hcell⟩ := rf_cell h
    clear h
    go_enter Try.func29, Try.ntmps29
    go_wp2_with fail
    refine F.mono ?_
    rintro e w1 ⟨rfl, j, a, ha, rfl, rfl⟩
    have hjlt : j < es.length := (List.getElem?_eq_some_iff.1 ha).1
    obtain ⟨tb, rfl, hcl⟩ := hcell (by omega)
    have q1 : w.cell? ⟨tb, j * 3 + 1, none⟩ = some (.int .i64 a.kind) := hcl j a 1 _ ha rfl
    clear hcl hcell ha F
    go_wp2_with fail
    go_ret
    exact ⟨rfl, rfl⟩
  | none =>
    simp only []
    have F := rfind_none h x h0 h8 hp
    clear h
    go_enter Try.func29, Try.ntmps29
    go_wp2_with fail
    refine F.mono ?_
    rintro e w1 ⟨rfl, rfl⟩
    go_wp2_with fail
    go_ret
    exact ⟨rfl, rfl⟩
theorem rlen_calls : Calls Try.prog 40 #[.pointer (some ⟨g, 0, none⟩), .int .u64 x] w fun e w' => e = .returned (.int .i64 (lenA (es.map RE.th) x)) ∧ w = w' := by
  unfold lenA
  cases hp : place (es.map RE.th) x with
  | some o =>
    simp only []
    have F := rfind_some h x h0 h8 o hp
    obtain ⟨A, c, c0, c1, c2, hlc, hcm, hcell⟩ := rf_cell h
    clear h
    go_enter Try.func40, Try.ntmps40
    go_wp2_with fail
    refine F.mono ?_
    rintro e w1 ⟨rfl, j, a, ha, rfl, rfl⟩
    have hjlt : j < es.length := (List.getElem?_eq_some_iff.1 ha).1
    obtain ⟨tb, rfl, hcl⟩ := hcell (by omega)
    have q1 : w.cell? ⟨tb, j * 3 + 2, none⟩ = some (.slice (some ⟨a.b, 0, none⟩) a.xs.length a.c) := hcl j a 2 _ ha rfl
    clear hcl hcell ha F
    go_wp2_with fail
    go_ret
    exact ⟨rfl, rfl⟩
  | none =>
    simp only []
    have F := rfind_none h x h0 h8 hp
    clear h
    go_enter Try.func40, Try.ntmps40
    go_wp2_with fail
    refine F.mono ?_
    rintro e w1 ⟨rfl, rfl⟩
    go_wp2_with fail
    go_ret
    exact ⟨rfl, rfl⟩
theorem rget_calls (k : Int) : Calls Try.prog 30 #[.pointer (some ⟨g, 0, none⟩), .int .u64 x, .int .i64 k] w fun e w' =>
    e = .returned (.tuple #[.int .u64 (getA (es.map RE.th) x k).1, .int .i64 (getA (es.map RE.th) x k).2]) ∧ w = w' := by
  unfold getA
  cases hp : place (es.map RE.th) x with
  | some o =>
    simp only []
    have F := rfind_some h x h0 h8 o hp
    obtain ⟨A, c, c0, c1, c2, hlc, hcm, hcell⟩ := rf_cell h
    have hrow := h.row
    clear h
    by_cases hk : 0 ≤ k ∧ k < (o.2.length : Int)
    · rw [if_pos hk]
      obtain ⟨i, rfl⟩ : ∃ i : Nat, k = i := ⟨k.toNat, by omega⟩
      have t1 : decide ((i : Int) < 0) = false := by simp
      have t2 : decide ((i : Int) ≥ (o.2.length : Int)) = false := by simp; omega
      have hk1 := hk.2
      go_enter Try.func30, Try.ntmps30
      go_wp2_with fail
      refine F.mono ?_
      rintro e w1 ⟨rfl, j, a, ha, rfl, rfl⟩
      have hjlt : j < es.length := (List.getElem?_eq_some_iff.1 ha).1
      obtain ⟨tb, rfl, hcl⟩ := hcell (by omega)
      have q1 : w.cell? ⟨tb, j * 3 + 2, none⟩ = some (.slice (some ⟨a.b, 0, none⟩) a.xs.length a.c) := hcl j a 2 _ ha rfl
      simp only [RE.th] at *
      have hil : i < a.xs.length := by omega
      obtain ⟨g2, c3, hgc, _, _, _, _, hcx⟩ := own_at (hrow a (List.mem_of_getElem? ha)).1 (by omega)
      simp only [Value.slice.injEq] at hgc
      obtain ⟨hg2, _, hc3⟩ := hgc
      simp only [Option.some.injEq, Addr.mk.injEq, and_true] at hg2
      subst hg2 hc3
      obtain ⟨v, hv⟩ : ∃ v, a.xs[i]? = some v := ⟨_, List.getElem?_eq_getElem hil⟩
      have q2 : w.cell? ⟨a.b, i, none⟩ = some (.int .u64 v) := (hcx i _ (by simp [nums, hv])).1
      have HV := Lib.hid hv
      clear hv
      clear hcl hcell ha F hcx hrow hk
      go_wp2_with fail
      go_ret2
      exact ⟨by simp [RE.th, List.getD_eq_getElem?_getD, HV.out], rfl⟩
    · rw [if_neg hk]
      by_cases hk0 : k < 0
      · have t1 : decide (k < 0) = true := by simpa using hk0
        clear hk hk0
        go_enter Try.func30, Try.ntmps30
        go_wp2_with fail
        refine F.mono ?_
        rintro e w1 ⟨rfl, j, a, ha, rfl, rfl⟩
        go_wp2_with fail
        go_ret2
        exact ⟨rfl, rfl⟩
      · have t1 : decide (k < 0) = false := by simpa using hk0
        have k2 : (o.2.length : Int) ≤ k := by omega
        clear hk hk0
        go_enter Try.func30, Try.ntmps30
        go_wp2_with fail
        refine F.mono ?_
        rintro e w1 ⟨rfl, j, a, ha, rfl, rfl⟩
        have hjlt : j < es.length := (List.getElem?_eq_some_iff.1 ha).1
        obtain ⟨tb, rfl, hcl⟩ := hcell (by omega)
        have q1 : w.cell? ⟨tb, j * 3 + 2, none⟩ = some (.slice (some ⟨a.b, 0, none⟩) a.xs.length a.c) := hcl j a 2 _ ha rfl
        simp only [RE.th] at *
        clear hcl hcell ha F hrow
        go_wp2_with fail
        go_ret2
        exact ⟨rfl, rfl⟩
  | none =>
    simp only []
    have F := rfind_none h x h0 h8 hp
    clear h
    go_enter Try.func30, Try.ntmps30
    go_wp2_with fail
    refine F.mono ?_
    rintro e w1 ⟨rfl, rfl⟩
    go_wp2_with fail
    go_ret2
    exact ⟨rfl, rfl⟩
end
end Go.Proofs.Ytoofnpecofcjjaa.Rf

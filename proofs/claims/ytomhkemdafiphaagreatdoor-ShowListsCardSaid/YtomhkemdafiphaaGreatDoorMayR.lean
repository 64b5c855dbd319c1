import Derived.Test.YtomhkemdafiphaaGreatDoorMayQ
import Derived.Test.YtomhkemdafiphaaGreatDoorMayC
import Derived.Test.YtomhkemdafiphaaGreatDoorKdRead
import Derived.Test.YtomhkemdafiphaaGreatDoorReadK
import Derived.Test.YtomhkemdafiphaaGreatDoorRowsApp
namespace Go.Proofs.YtomhkemdafiphaaGreatDoor.ReadM
open Go Go.RowKit Go.Proofs.YtomhkemdafiphaaGreatDoor.Heap Go.Proofs.YtomhkemdafiphaaGreatDoor.ReadP Go.Proofs.YtomhkemdafiphaaGreatDoor.PMays Go.Proofs.YtomhkemdafiphaaGreatDoor.Pure
open Go.Proofs.YtomhkemdafiphaaGreatDoor.Own (ob mem_ob own_slice own_keep Src app src_new min_nat max2_int min2_int max_two min_two add_flat)
open Go.Proofs.YtomhkemdafiphaaGreatDoorW.PrintWords (Kd Reps Aside0 below_then below_alloc)
open Go.Proofs.YtomhkemdafiphaaGreatDoor.Lib2 (Rd RdFs)
instance : Inhabited (S34) := ⟨z34⟩
def nodeWf (x : S34) : Prop := (Lit.int .u8 x.f0).wf = true ∧ (Lit.int .i64 x.f1).wf = true ∧ (Lit.int .i64 x.f2).wf = true ∧ x.f3.size ≤ maxLen ∧ x.f4.length ≤ maxLen ∧ ∀ p ∈ x.f4, (Lit.int .i64 p).wf = true
theorem rd_node : Rd Tryz.prog k34 34 nodeWf := Rd.struct (P := Tryz.prog) (t := 34) (ts := [5, 3, 3, 9, 29]) (by kernel_rfl)
  (RdFs.cons (Rd.int (k := .u8) (by kernel_rfl) (by kernel_rfl)) (RdFs.cons (Rd.int (k := .i64) (by kernel_rfl) (by kernel_rfl)) (RdFs.cons (Rd.int (k := .i64) (by kernel_rfl) (by kernel_rfl)) (RdFs.cons (Rd.string (by kernel_rfl) (by kernel_rfl)) (RdFs.one (Rd.slice (q := 3) (Rd.int (t := 3) (k := .i64) (by kernel_rfl) (by kernel_rfl)) (by kernel_rfl) (by kernel_rfl)))))))
  (fun x : S34 => (x.f0, x.f1, x.f2, x.f3, x.f4)) (fun a => ⟨a.1, a.2.1, a.2.2.1, a.2.2.2.1, a.2.2.2.2⟩) (fun _ => rfl)
theorem rd_nodes : Rd Tryz.prog (Kd.slice 34 k34) 22 (fun l => l.length ≤ maxLen ∧ ∀ b ∈ l, nodeWf b) := Rd.slice rd_node (by kernel_rfl) (by kernel_rfl)
theorem RI_C {w : World} {A : Option Addr} {c : Nat} {l : List Int} (h : (Kd.int .i64).C w A l.length l) (hc : l.length ≤ c) : RI w (.slice A l.length c) l := by
  refine ⟨A, c, rfl, hc, fun hp => ?_⟩
  obtain ⟨ys, hr, hs, _⟩ := Go.Proofs.YtomhkemdafiphaaGreatDoor.Lib2.C_src (c := c) h hp
  obtain ⟨b, o, h1, _, h2⟩ := hs.pl hp (by decide)
  refine ⟨b, o, h1, fun j x hj => h2 j _ ?_⟩
  have := hr.2 j x hj
  have e : (ys.drop (j * 1)).take 1 = [.int .i64 x] := this
  have e2 := congrArg (fun l => l[0]?) e
  simp only [List.getElem?_cons_zero] at e2
  rw [List.getElem?_take_of_lt (by omega), List.getElem?_drop, Nat.mul_one, Nat.add_zero] at e2
  exact e2
theorem RN_C {w : World} {A : Option Addr} {c : Nat} {l : List (S34)} (h : Kd.C k34 w A l.length l) (hc : l.length ≤ c) : ∃ rs : List (Nd × Value), rs.map (·.1) = l.map ofN ∧ RN w (.slice A l.length c) rs := by
  have hl : (l.map ofN).length = l.length := List.length_map ..
  have := RN_of (w := w) (A := A) (c := c) (l := l.map ofN) (by rw [hl]; exact hc) (fun hp => by
    rw [hl] at hp
    obtain ⟨ys, hr, hs, _⟩ := Go.Proofs.YtomhkemdafiphaaGreatDoor.Lib2.C_src (c := c) h hp
    obtain ⟨b, o, h1, _, h2⟩ := hs.pl hp (by decide)
    refine ⟨b, o, h1, fun j x hj => ?_⟩
    rw [List.getElem?_map] at hj
    cases hx : l[j]? with
    | none => rw [hx] at hj; simp at hj
    | some y =>
      rw [hx] at hj
      have : ofN y = x := by simpa using hj
      subst this
      have hk := hr.2 j y hx
      obtain ⟨A4, c4, he, l4, g4⟩ := k34_open hk
      have g : ∀ i, i < 5 → ys[j * 5 + i]? = ([.int .u8 y.f0, .int .i64 y.f1, .int .i64 y.f2, .string y.f3, .slice A4 y.f4.length c4] : List Value)[i]? := fun i hi => by
        rw [← he, List.getElem?_take_of_lt (by exact hi), List.getElem?_drop]
        rfl
      have hs3 : y.f3 = ⟨y.f3.data.toList.toArray⟩ := by cases y.f3; simp
      refine ⟨.slice A4 y.f4.length c4, h2 (j * 5 + 0) _ (by rw [g 0 (by omega)]; rfl), h2 (j * 5 + 1) _ (by rw [g 1 (by omega)]; rfl), h2 (j * 5 + 2) _ (by rw [g 2 (by omega)]; rfl), ?_, h2 (j * 5 + 4) _ (by rw [g 4 (by omega)]; rfl), RI_C g4 l4⟩
      have := h2 (j * 5 + 3) (.string y.f3) (by rw [g 3 (by omega)]; rfl)
      rw [hs3] at this
      exact this)
  rw [hl] at this
  exact this
theorem C_RI {w : World} {A : Option Addr} {c : Nat} {l : List Int} (h : RI w (.slice A l.length c) l) (hm : l.length ≤ 9223372036854775807) : l.length ≤ c ∧ (Kd.int .i64).C w A l.length l := by
  obtain ⟨A', c', he, hc, hcell⟩ := h
  simp only [Value.slice.injEq] at he
  obtain ⟨rfl, _, rfl⟩ := he
  refine ⟨hc, rfl, hm, fun hp => ?_⟩
  obtain ⟨b, o, rfl, h2⟩ := hcell hp
  refine ⟨_, rfl, fun j p hj => ⟨[.int .i64 p], rfl, rfl, fun i u hu => ?_⟩⟩
  have hi : i = 0 := by have := (List.getElem?_eq_some_iff.1 hu).1; simp at this; omega
  subst hi
  have hu' : Value.int .i64 p = u := by simpa using hu
  subst hu'
  show w.cell? ((⟨b, o, none⟩ : Addr).add (j * 1 + 0)) = _
  rw [add_flat, Nat.mul_one, Nat.add_zero]
  exact h2 j p hj
def toN (x : Nd) : S34 := ⟨x.kind, x.pos, x.n, ⟨x.s.toArray⟩, x.l⟩
theorem of_toN (x : Nd) : ofN (toN x) = x := by
  obtain ⟨a, b, c, d, e⟩ := x
  simp [ofN, toN]
theorem C_RN {w : World} {v : Value} {rs : List (Nd × Value)} (h : RN w v rs) (hm : rs.length ≤ 1000000) (hm2 : ∀ p ∈ rs, p.1.l.length ≤ 1000000) : ∃ A c, v = .slice A (rs.map fun p => toN p.1).length c ∧ (rs.map fun p => toN p.1).length ≤ c ∧ Kd.C k34 w A (rs.map fun p => toN p.1).length (rs.map fun p => toN p.1) := by
  obtain ⟨A, c, rfl, hc, hcell, hin⟩ := h
  rw [List.length_map]
  refine ⟨A, c, rfl, hc, by rw [List.length_map], by omega, fun hp => ?_⟩
  obtain ⟨b, o, rfl, h2⟩ := hcell hp
  refine ⟨_, rfl, fun j x hj => ?_⟩
  rw [List.getElem?_map] at hj
  cases hr : rs[j]? with
  | none => rw [hr] at hj; simp at hj
  | some p =>
    rw [hr] at hj
    have hx : toN p.1 = x := by simpa using hj
    subst hx
    obtain ⟨a0, a1, a2, a3, a4⟩ := h2 j p hr
    have hi := hin p (List.mem_of_getElem? hr)
    have hl := hm2 p (List.mem_of_getElem? hr)
    obtain ⟨LA, Lc, hLv, _, _⟩ := id hi
    rw [hLv] at a4 hi
    obtain ⟨l4, g4⟩ := C_RI hi (by omega)
    refine ⟨_, rfl, k34_mk w (toN p.1) (A4 := LA) (c4 := Lc) l4 g4, fun i u hu => ?_⟩
    show w.cell? ((⟨b, o, none⟩ : Addr).add (j * 5 + i)) = _
    rw [add_flat, show o + (j * 5 + i) = o + j * 5 + i from by omega]
    match i, hu with
    | 0, hu => rw [← show some (Value.int .u8 p.1.kind) = some u from hu]; exact a0
    | 1, hu => rw [← show some (Value.int .i64 p.1.pos) = some u from hu]; exact a1
    | 2, hu => rw [← show some (Value.int .i64 p.1.n) = some u from hu]; exact a2
    | 3, hu => rw [← show some (Value.string ⟨p.1.s.toArray⟩) = some u from hu]; exact a3
    | 4, hu => rw [← show some (Value.slice LA p.1.l.length Lc) = some u from hu]; exact a4
    | i + 5, hu => simp at hu
/-- the document's May -/
theorem rmay_calls (rs : List (Nd × Value)) (v : Value) (w : World) (h : RN w v rs) (hl : rs.length ≤ 10000) (hl2 : ∀ p ∈ rs, p.1.l.length ≤ 10000) :
    Calls Tryz.prog 31 #[v] w fun e w' => e = .returned (.bool (mayF 0 [] (rs.map (·.1)))) ∧ Below w.heap.size w w' := by
  obtain ⟨A, c, rfl, hc, hC⟩ := C_RN h (by omega) (fun p hp => by have := hl2 p hp; omega)
  obtain ⟨k, hk⟩ := may_f (rs.map fun p => toN p.1) (by rw [List.length_map]; omega) (fun x hx => by obtain ⟨p, hp, rfl⟩ := List.mem_map.1 hx; have := hl2 p hp; show p.1.l.length ≤ _; omega)
  have he : (rs.map fun p => toN p.1).map ofN = rs.map (·.1) := by
    rw [List.map_map]
    exact List.map_congr_left (fun p _ => of_toN p.1)
  rw [he] at hk
  exact eddywheelref06_May.calls k A c _ _ w hC hc hk
end Go.Proofs.YtomhkemdafiphaaGreatDoor.ReadM

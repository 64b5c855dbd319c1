import Derived.Test.YthfbkhjcnfjmmaaDoorReadS
namespace Go.Proofs.YthfbkhjcnfjmmaaDoor.ReadM
open Go Go.RowKit Go.Proofs.YthfbkhjcnfjmmaaDoor.Heap Go.Proofs.YthfbkhjcnfjmmaaDoor.Own Go.Proofs.YthfbkhjcnfjmmaaDoor.ReadP
theorem own_low {w : World} {base base0 e size n : Nat} {v : Value} {xs : List Value} (h : w.ownsRow base e size v n xs) (hb : base0 ≤ base) : w.ownsRow base0 e size v n xs :=
  ⟨h.1, h.2.imp id (fun ⟨g, c, cur, h1, h2, h3⟩ => ⟨g, c, cur, h1, Nat.le_trans hb h2, h3⟩)⟩
/-- a slice that reads as data, element by element -/
theorem RN_of {w : World} {A : Option Addr} {c : Nat} {l : List Nd} (hc : l.length ≤ c) (h : 0 < l.length → ∃ b o, A = some ⟨b, o, none⟩ ∧ ∀ (j : Nat) x, l[j]? = some x → ∃ Lv, w.cell? ⟨b, o + j * 5, none⟩ = some (.int .u8 x.kind) ∧ w.cell? ⟨b, o + j * 5 + 1, none⟩ = some (.int .i64 x.pos) ∧ w.cell? ⟨b, o + j * 5 + 2, none⟩ = some (.int .i64 x.n) ∧ w.cell? ⟨b, o + j * 5 + 3, none⟩ = some (.string ⟨x.s.toArray⟩) ∧ w.cell? ⟨b, o + j * 5 + 4, none⟩ = some Lv ∧ RI w Lv x.l) :
    ∃ rs : List (Nd × Value), rs.map (·.1) = l ∧ RN w (.slice A l.length c) rs := by
  by_cases hp : 0 < l.length
  · obtain ⟨b, o, rfl, hh⟩ := h hp
    have hex : ∀ j : Nat, ∃ Lv, ∀ x, l[j]? = some x → w.cell? ⟨b, o + j * 5, none⟩ = some (.int .u8 x.kind) ∧ w.cell? ⟨b, o + j * 5 + 1, none⟩ = some (.int .i64 x.pos) ∧ w.cell? ⟨b, o + j * 5 + 2, none⟩ = some (.int .i64 x.n) ∧ w.cell? ⟨b, o + j * 5 + 3, none⟩ = some (.string ⟨x.s.toArray⟩) ∧ w.cell? ⟨b, o + j * 5 + 4, none⟩ = some Lv ∧ RI w Lv x.l := fun j => by
      cases hx : l[j]? with
      | none => exact ⟨.nilIface, fun x h => by cases h⟩
      | some x =>
        obtain ⟨Lv, hl⟩ := hh j x hx
        exact ⟨Lv, fun x' h => by injection h with h; subst h; exact hl⟩
    have hf := fun j => Classical.choose_spec (hex j)
    generalize hfe : (fun j => Classical.choose (hex j)) = f at *
    have hf' : ∀ j x, l[j]? = some x → w.cell? ⟨b, o + j * 5, none⟩ = some (.int .u8 x.kind) ∧ w.cell? ⟨b, o + j * 5 + 1, none⟩ = some (.int .i64 x.pos) ∧ w.cell? ⟨b, o + j * 5 + 2, none⟩ = some (.int .i64 x.n) ∧ w.cell? ⟨b, o + j * 5 + 3, none⟩ = some (.string ⟨x.s.toArray⟩) ∧ w.cell? ⟨b, o + j * 5 + 4, none⟩ = some (f j) ∧ RI w (f j) x.l := fun j x hx => by
      rw [← hfe]; exact hf j x hx
    refine ⟨l.zipIdx.map fun p => (p.1, f p.2), ?_, ⟨_, c, ?_, by simpa using hc, fun _ => ⟨b, o, rfl, fun j p hj => ?_⟩, fun p hp => ?_⟩⟩
    · rw [List.map_map]
      exact List.zipIdx_map_fst 0 l
    · simp
    · rw [List.getElem?_map, List.getElem?_zipIdx] at hj
      cases hx : l[j]? with
      | none => rw [hx] at hj; simp at hj
      | some x =>
        rw [hx] at hj
        simp at hj
        subst hj
        obtain ⟨a1, a2, a3, a4, a5, _⟩ := hf' j x hx
        exact ⟨a1, a2, a3, a4, a5⟩
    · obtain ⟨q, hq, rfl⟩ := List.mem_map.1 hp
      obtain ⟨j, hj⟩ := List.mem_iff_getElem?.1 hq
      rw [List.getElem?_zipIdx] at hj
      cases hx : l[j]? with
      | none => rw [hx] at hj; simp at hj
      | some x =>
        rw [hx] at hj
        simp at hj
        subst hj
        exact (hf' j x hx).2.2.2.2.2
  · have : l = [] := by
      cases l with
      | nil => rfl
      | cons a l => simp at hp
    subst this
    exact ⟨[], rfl, ⟨A, c, rfl, Nat.zero_le _, fun h => absurd h (Nat.lt_irrefl 0), fun p hp => by cases hp⟩⟩
end Go.Proofs.YthfbkhjcnfjmmaaDoor.ReadM

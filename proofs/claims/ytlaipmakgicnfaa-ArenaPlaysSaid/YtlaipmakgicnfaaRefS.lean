/- The contract of Set of the arena of the reference; it states its conditions. -/
import Derived.Test.YtlaipmakgicnfaaRefG
namespace Go.Proofs.Ytlaipmakgicnfaa.Rf
open Go Go.RowKit Go.Proofs.Ytlaipmakgicnfaa.Heap Go.Proofs.Ytlaipmakgicnfaa.Word Go.Proofs.Ytlaipmakgicnfaa.Own Go.Proofs.Ytlaipmakgicnfaa.Ar
theorem map_set_same {α β : Type} (f : α → β) {l : List α} {j : Nat} {e e' : α} (hj : l[j]? = some e) (hf : f e' = f e) : (l.set j e').map f = l.map f := by
  induction l generalizing j with
  | nil => rfl
  | cons a r ih =>
    cases j with
    | zero => simp at hj; subst hj; simp [hf]
    | succ j => simp at hj; simp [ih hj]
theorem setT_es {n : Nat} {es : List RE} (h : okAt n es) (p i : Nat) (v : Int) (j : Nat) (e : RE) (hj : es[j]? = some e) (he : e.pos = n + p) :
    setT (es.map RE.th) p i v = (es.set j { e with xs := e.xs.set i v }).map RE.th := by
  induction es generalizing n p j with
  | nil => simp at hj
  | cons a r ih =>
    rw [List.map_cons]
    cases j with
    | zero =>
      simp at hj; subst hj
      have := h.1
      obtain rfl : p = 0 := by omega
      simp [setT, RE.th]
    | succ j =>
      have hj' : r[j]? = some e := by simpa using hj
      have h1 := h.1
      have hp := (okAt_pos h.2 e (List.mem_of_getElem? hj')).1
      simp only [setT]
      rw [if_neg (by omega), if_neg (by simp only [RE.th]; omega), ih h.2 (p - ((RE.th a).2.length + 1)) j hj' (by simp only [RE.th]; omega)]
      simp
theorem okAt_set {n : Nat} {es : List RE} (h : okAt n es) (j : Nat) (e e' : RE) (hj : es[j]? = some e) (h1 : e'.pos = e.pos) (h2 : e'.xs.length = e.xs.length) : okAt n (es.set j e') := by
  induction es generalizing n j with
  | nil => simp at hj
  | cons a r ih =>
    cases j with
    | zero =>
      simp at hj; subst hj
      exact ⟨h1.trans h.1, by rw [h2]; exact h.2⟩
    | succ j => exact ⟨h.1, ih h.2 j (by simpa using hj)⟩
theorem mem_set_cases {α : Type} {l : List α} {j : Nat} {x e' : α} (h : x ∈ l.set j e') : x = e' ∨ ∃ k, k ≠ j ∧ l[k]? = some x := by
  obtain ⟨k, hk⟩ := List.mem_iff_getElem?.1 h
  rw [List.getElem?_set] at hk
  split at hk
  · split at hk
    · cases hk; exact .inl rfl
    · cases hk
  · rename_i hne
    exact .inr ⟨k, Ne.symm hne, hk⟩
theorem nodup_idx {l : List RE} (h : (l.map RE.b).Nodup) {j k : Nat} {a e : RE} (hj : l[j]? = some a) (hk : l[k]? = some e) (hne : k ≠ j) : e.b ≠ a.b := by
  intro hb
  have hl : k < (l.map RE.b).length := by have := (List.getElem?_eq_some_iff.1 hk).1; simpa using this
  exact hne ((List.getElem?_inj hl h).1 (by rw [List.getElem?_map, List.getElem?_map, hj, hk]; simp [hb]))
theorem rset_fin {w : World} {R : Nat → Prop} {g size : Nat} {es : List RE} (h : IsRf w R g size es) (j : Nat) (a : RE) (ha : es[j]? = some a) (p i : Nat) (hp : a.pos = p) (v : Int) :
    ∃ es', es'.map RE.th = setT (es.map RE.th) p i v ∧ IsRf (w.setCell ⟨a.b, i, none⟩ (.int .u64 v)) R g size es' := by
  have hmem := List.mem_of_getElem? ha
  have hth := setT_es h.pos p i v j a ha (by omega)
  refine ⟨_, hth.symm, ?_⟩
  obtain ⟨A, c, hg, ho, hRt⟩ := h.top
  obtain ⟨hr, hRb⟩ := h.row a hmem
  have hbk : ∃ cur, w.heap[a.b]? = some (.cells cur 31 (0, 0)) := by
    rcases hr.2 with ⟨h3, _⟩ | ⟨g', cap, cur, h3, _, h5, _⟩
    · simp at h3
    · simp at h3; rw [h3.1]; exact ⟨_, h5⟩
  obtain ⟨cur, hbk⟩ := hbk
  have nf : ∀ k, k ≠ a.b → (w.setCell ⟨a.b, i, none⟩ (.int .u64 v)).heap[k]? = w.heap[k]? := fun k hk => Below.heap_setCell _ _ _ _ hk
  have K : Chg [a.b] w (w.setCell ⟨a.b, i, none⟩ (.int .u64 v)) := (Chg.refl _ _).set _ _ (.inl (by simp))
  refine ⟨⟨A, c, ?_, ?_, ?_⟩, okAt_set h.pos j a _ ha rfl (by simp), ?_, ?_, ?_, h.lo, h.hi, ?_, h.own⟩
  · rw [← hth, setT_tot, List.length_set, nf _ (blk_ne hg hbk (by decide))]; exact hg
  · have e1 : (es.set j { a with xs := a.xs.set i v }).flatMap RE.cells = es.flatMap RE.cells := by
      rw [List.flatMap_def, List.flatMap_def, map_set_same RE.cells ha (by simp [RE.cells])]
    rw [e1, List.length_set]
    refine own_keep ho K (fun b hb hm => ?_)
    simp at hm; subst hm
    rcases ho.2 with ⟨h1, _⟩ | ⟨g', cap, cur', h1, _, h3, _⟩
    · simp only [Value.slice.injEq] at h1; rw [h1.1] at hb; simp [Value.ownBlock] at hb
    · simp only [Value.slice.injEq] at h1; rw [h1.1] at hb; simp [Value.ownBlock] at hb
      subst hb; exact blk_ne hbk h3 (by decide) rfl
  · rw [List.length_set]; exact hRt
  · intro e he
    rcases mem_set_cases he with rfl | ⟨k, hk, hek⟩
    · refine ⟨?_, hRb⟩
      have := own_set hr i (.int .u64 v)
      simpa [nums, List.map_set] using this
    · obtain ⟨h1, h2⟩ := h.row e (List.mem_of_getElem? hek)
      refine ⟨own_keep h1 K (fun b hb hm => ?_), h2⟩
      simp [Value.ownBlock] at hb
      simp at hm
      subst hb
      exact nodup_idx h.dif ha hek hk hm
  · rw [map_set_same RE.b (e' := { a with xs := a.xs.set i v }) ha rfl]; exact h.dif
  · rw [← hth]; exact okT_setT h.ok _ _ _
  · rw [← hth, setT_tot]; exact h.le
theorem rset_calls {w : World} {R : Nat → Prop} {g size : Nat} {es : List RE} (h : IsRf w R g size es) (x k v : Int) (h0 : 0 ≤ x) (h8 : x < 18446744073709551616) :
    Calls Try.prog 20 #[.pointer (some ⟨g, 0, none⟩), .int .u64 x, .int .i64 k, .int .u64 v] w fun e w' =>
      e = .returned (.int .i64 (setA (es.map RE.th) x k v).2) ∧ (∃ es', es'.map RE.th = (setA (es.map RE.th) x k v).1 ∧ IsRf w' R g size es') ∧ ChgR R w w' := by
  have FIN0 := Lib.hid (show ∃ es', es'.map RE.th = es.map RE.th ∧ IsRf w R g size es' from ⟨es, rfl, h⟩)
  unfold setA
  cases hp : place (es.map RE.th) x with
  | some o =>
    simp only []
    have F := rfind_at h x h0 h8 o hp
    obtain ⟨A, c, c0, c1, c2, hlc, hcm, hcell⟩ := rf_cell h
    have hrow := h.row
    by_cases hk : 0 ≤ k ∧ k < (o.2.length : Int)
    · rw [if_pos hk]
      obtain ⟨i, rfl⟩ : ∃ i : Nat, k = i := ⟨k.toNat, by omega⟩
      have FIN := Lib.hid (fun j a ha hps => rset_fin h j a ha (x / 8).toNat i hps v)
      clear h
      have t1 : decide ((i : Int) < 0) = false := by simp
      have t2 : decide ((i : Int) ≥ (o.2.length : Int)) = false := by simp; omega
      have hk1 := hk.2
      rw [show ((i : Int)).toNat = i by omega]
      go_enter Try.func20, Try.ntmps20
      go_wp2_with fail
      refine F.mono ?_
      rintro e w1 ⟨rfl, j, a, ha, rfl, rfl, hps⟩
      have hjlt : j < es.length := (List.getElem?_eq_some_iff.1 ha).1
      obtain ⟨tb, rfl, hcl⟩ := hcell (by omega)
      have q1 : w.cell? ⟨tb, j * 3 + 2, none⟩ = some (.slice (some ⟨a.b, 0, none⟩) a.xs.length a.c) := hcl j a 2 _ ha rfl
      simp only [RE.th] at *
      have hil : i < a.xs.length := by omega
      obtain ⟨hra, hRb⟩ := hrow a (List.mem_of_getElem? ha)
      obtain ⟨g2, c3, hgc, _, _, _, _, hcx⟩ := own_at hra (by omega)
      simp only [Value.slice.injEq] at hgc
      obtain ⟨hg2, _, hc3⟩ := hgc
      simp only [Option.some.injEq, Addr.mk.injEq, and_true] at hg2
      subst hg2 hc3
      obtain ⟨v0, hv⟩ : ∃ v, a.xs[i]? = some v := ⟨_, List.getElem?_eq_getElem hil⟩
      obtain ⟨q2, q3⟩ := hcx i (.int .u64 v0) (by simp [nums, hv])
      have HA := Lib.hid ha
      have HP := Lib.hid hps
      have HR := Lib.hid hRb
      clear hv ha hps hRb hra
      clear hcl hcell F hcx hrow hk
      go_wp2_with fail
      go_ret
      exact ⟨rfl, FIN.out j a HA.out HP.out, (ChgR.refl _ _).set _ _ (.inl HR.out)⟩
    · rw [if_neg hk]
      clear h
      by_cases hk0 : k < 0
      · have t1 : decide (k < 0) = true := by simpa using hk0
        clear hk hk0
        go_enter Try.func20, Try.ntmps20
        go_wp2_with fail
        refine F.mono ?_
        rintro e w1 ⟨rfl, j, a, ha, rfl, rfl, hps⟩
        clear hps
        go_wp2_with fail
        go_ret
        exact ⟨rfl, FIN0.out, ChgR.refl _ _⟩
      · have t1 : decide (k < 0) = false := by simpa using hk0
        have k2 : (o.2.length : Int) ≤ k := by omega
        clear hk hk0
        go_enter Try.func20, Try.ntmps20
        go_wp2_with fail
        refine F.mono ?_
        rintro e w1 ⟨rfl, j, a, ha, rfl, rfl, hps⟩
        have hjlt : j < es.length := (List.getElem?_eq_some_iff.1 ha).1
        obtain ⟨tb, rfl, hcl⟩ := hcell (by omega)
        have q1 : w.cell? ⟨tb, j * 3 + 2, none⟩ = some (.slice (some ⟨a.b, 0, none⟩) a.xs.length a.c) := hcl j a 2 _ ha rfl
        simp only [RE.th] at k2
        clear hcl hcell ha F hrow hps
        go_wp2_with fail
        go_ret
        exact ⟨rfl, FIN0.out, ChgR.refl _ _⟩
  | none =>
    simp only []
    have F := rfind_none h x h0 h8 hp
    clear h
    go_enter Try.func20, Try.ntmps20
    go_wp2_with fail
    refine F.mono ?_
    rintro e w1 ⟨rfl, rfl⟩
    go_wp2_with fail
    go_ret
    exact ⟨rfl, FIN0.out, ChgR.refl _ _⟩
end Go.Proofs.Ytlaipmakgicnfaa.Rf

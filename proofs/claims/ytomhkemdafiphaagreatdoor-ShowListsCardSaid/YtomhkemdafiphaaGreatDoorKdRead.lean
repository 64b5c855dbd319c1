/- How arguments come in, kind by kind; each states its conditions. -/
import Derived.Test.YtomhkemdafiphaaGreatDoorWMore
import Derived.Deep.Slices
import Derived.Deep.Fields
import Derived.ChangeArms
namespace Go.Proofs.YtomhkemdafiphaaGreatDoor.Lib2
open Go Go.RowKit Go.ChangeShapes Go.WideShapes Go.Deep Go.Proofs.YtomhkemdafiphaaGreatDoorW.PrintWords
section
variable {α β : Type} {P : Program} {t e : TypeId}
/-- what came in and reads as data reads as a value of kind d -/
structure Rd {α : Type} (P : Program) (d : Kd α) (t : TypeId) (wf : α → Prop) : Prop where
  sz : P.cellsOf t = d.sz
  rd : ∀ {H : Type} {enc : TypeId × Value → H} {w : World} {base : Nat} {held : Bool} {n : Nat} {cs : List Value} {x : DataW H × List MemPlace}, DataW.trod enc P w base (fun _ => true) held n t cs = some x → ∃ a, Kd.FK d w (fun _ => True) a cs ∧ wf a
theorem kd_cell {w W' : World} (hW : ∀ k, True → k < w.heap.size → W'.heap[k]? = w.heap[k]?) {p : Addr} {u : Value} (h : w.cell? p = some u) : W'.cell? p = some u := by
  have hb := World.block_lt_of_cell? w p h
  rw [← h]
  simp only [World.cell?, hW p.block trivial hb]
theorem Rd.int {k : IntKind} (ht : P.underlying t = some (.int k)) (hs : P.cellsOf t = 1) : Rd P (Kd.int k) t (fun n => (Lit.int k n).wf = true) :=
  ⟨hs, fun h => by obtain ⟨n, h1, _, h2⟩ := DataW.trod_int ht h; exact ⟨n, fun _ _ => h1, h2⟩⟩
theorem Rd.bool (ht : P.underlying t = some .bool) (hs : P.cellsOf t = 1) : Rd P Kd.bool t (fun _ => True) :=
  ⟨hs, fun h => by obtain ⟨n, h1, _⟩ := DataW.trod_bool ht h; exact ⟨n, fun _ _ => h1, trivial⟩⟩
theorem Rd.string (ht : P.underlying t = some .string) (hs : P.cellsOf t = 1) : Rd P Kd.string t (fun s => s.size ≤ maxLen) :=
  ⟨hs, fun h => by obtain ⟨n, h1, _, h2⟩ := DataW.trod_string ht h; exact ⟨n, fun _ _ => h1, h2⟩⟩
theorem kd_add_add (a : Addr) (i j : Nat) : (a.add i).add j = a.add (i + j) := by
  unfold Addr.add
  by_cases hi : i = 0 <;> by_cases hj : j = 0 <;> simp [hi, hj, Nat.add_assoc]
theorem Rd.slice [Inhabited α] {d : Kd α} {wf : α → Prop} {q : Nat} (hd : Rd P d e wf) (ht : P.underlying t = some (.slice e)) (hs : P.cellsOf t = 1) : Rd P (Kd.slice q d) t (fun xs => xs.length ≤ maxLen ∧ ∀ x ∈ xs, wf x) := by
  refine ⟨hs, fun {H enc w base held n cs x} h => ?_⟩
  rcases open_slice ht h with ⟨h1, _⟩ | ⟨a, len, cap, m, n', D, Pl, h1, _, hl, hc, hm, _, hx⟩
  · exact ⟨[], fun _ _ => ⟨none, 0, h1, Nat.le_refl _, Kd.C_nil _ _⟩, by simp [maxLen], by simp⟩
  · have hlm : len ≤ m := by rw [hm]; split <;> omega
    have key : ∀ i, i < len → ∃ b : α, (∃ c, c.length = d.sz ∧ Kd.FK d w (fun _ => True) b c ∧ ∀ j u, c[j]? = some u → w.cell? (a.add (i * d.sz + j)) = some u) ∧ wf b := by
      intro i hi
      obtain ⟨cs', hcells, hy⟩ := hx i (by omega)
      obtain ⟨_, hlen, hcell⟩ := World.cells?_some hcells
      obtain ⟨b, hb, hw⟩ := hd.rd hy
      refine ⟨b, ⟨cs', d.K_len (Kd.FK_now hb), hb, fun j u hu => ?_⟩, hw⟩
      have hj := (List.getElem?_eq_some_iff.1 hu).1
      have := hcell j (by omega)
      rw [kd_add_add, hd.sz] at this
      rw [this, hu]
    obtain ⟨B, hB⟩ := choose_lt key
    have hlen : ((List.range len).map B).length = len := by simp
    refine ⟨(List.range len).map B, fun W' hW' => ⟨some a, cap, by rw [hlen]; exact h1, by rw [hlen]; exact hl, ⟨rfl, by rw [hlen]; unfold maxLen at hc; omega, fun _ => ⟨a, rfl, fun j p hp => ?_⟩⟩⟩, by rw [hlen]; omega, fun x hx => ?_⟩
    · have hj : j < len := by have := (List.getElem?_eq_some_iff.1 hp).1; simpa using this
      rw [List.getElem?_map, List.getElem?_range hj] at hp
      simp at hp; subst hp
      obtain ⟨c, c1, c2, c3⟩ := (hB j hj).1
      exact ⟨c, c1, c2 W' hW', fun i u hu => kd_cell hW' (c3 i u hu)⟩
    · obtain ⟨i, hi, rfl⟩ := List.mem_map.1 hx
      exact (hB i (List.mem_range.1 hi)).2
/-- how many cells the fields of a struct take -/
def total (P : Program) : List TypeId → Nat
  | [] => 0
  | t :: r => P.cellsOf t + total P r
def FsRead {H : Type} (enc : TypeId × Value → H) (P : Program) (w : World) (base : Nat) (held : Bool) (n : Nat) : List TypeId → List Value → Prop
  | [], cs => cs = []
  | t :: ts, cs => (∃ y, DataW.trod enc P w base (fun _ => true) held n t (cs.take (P.cellsOf t)) = some y) ∧ FsRead enc P w base held n ts (cs.drop (P.cellsOf t))
structure RdFs {α : Type} (P : Program) (d : Kd α) (ts : List TypeId) (wf : α → Prop) : Prop where
  rd : ∀ {H : Type} {enc : TypeId × Value → H} {w : World} {base : Nat} {held : Bool} {n : Nat} {cs : List Value}, FsRead enc P w base held n ts cs → ∃ a, Kd.FK d w (fun _ => True) a cs ∧ wf a
  sz : total P ts = d.sz
theorem RdFs.one {d : Kd α} {wf : α → Prop} (h : Rd P d t wf) : RdFs P d [t] wf := by
  refine ⟨fun {H enc w base held n cs} hr => ?_, by simp [total, h.sz]⟩
  obtain ⟨⟨y, hy⟩, h2⟩ := hr
  obtain ⟨a, ha, hw⟩ := h.rd hy
  refine ⟨a, ?_, hw⟩
  have e : cs = cs.take (P.cellsOf t) ++ cs.drop (P.cellsOf t) := (List.take_append_drop _ _).symm
  rw [show cs.drop (P.cellsOf t) = [] from h2, List.append_nil] at e
  rw [e]; exact ha
theorem RdFs.cons {d : Kd α} {b : Kd β} {wf : α → Prop} {wf' : β → Prop} {ts : List TypeId} (h : Rd P d t wf) (k : RdFs P b ts wf') : RdFs P (Kd.pair d b) (t :: ts) (fun x => wf x.1 ∧ wf' x.2) := by
  refine ⟨fun {H enc w base held n cs} hr => ?_, by simp [total, h.sz, k.sz, Kd.pair]⟩
  obtain ⟨⟨y, hy⟩, h2⟩ := hr
  obtain ⟨a, ha, hw⟩ := h.rd hy
  obtain ⟨c, hc, hw'⟩ := k.rd h2
  exact ⟨(a, c), fun W' hW' => ⟨_, _, (List.take_append_drop _ _).symm, ha W' hW', hc W' hW'⟩, hw, hw'⟩
/-- the fields of a struct type are of these types, one behind the other -/
def fieldsAt (P : Program) : List TypeId → List Field → Nat → Bool
  | [], [], _ => true
  | t :: ts, f :: fs, o => f.type == t && f.offset == o && fieldsAt P ts fs (o + P.cellsOf t)
  | _, _, _ => false
def structAt (P : Program) (t : TypeId) (ts : List TypeId) : Bool := match P.underlying t with
  | some (.struct fs) => fieldsAt P ts fs.toList 0 && P.cellsOf t == total P ts
  | _ => false
theorem fsRead_of {H : Type} {enc : TypeId × Value → H} {w : World} {base : Nat} {held : Bool} {n : Nat} : ∀ {ts : List TypeId} {fs : List Field} {o : Nat} {cs : List Value}, fieldsAt P ts fs o = true → cs.length = o + total P ts →
    (∀ f ∈ fs, ∃ y, DataW.trod enc P w base (fun _ => true) held n f.type ((cs.drop f.offset).take (P.cellsOf f.type)) = some y) → FsRead enc P w base held n ts (cs.drop o)
  | [], [], o, cs, _, hl, _ => by simp only [total] at hl; simp [FsRead]; omega
  | t :: ts, f :: fs, o, cs, h, hl, hr => by
    simp only [fieldsAt, Bool.and_eq_true, beq_iff_eq] at h
    obtain ⟨⟨rfl, rfl⟩, h3⟩ := h
    simp only [total] at hl
    refine ⟨hr f (by simp), ?_⟩
    rw [List.drop_drop]
    exact fsRead_of h3 (by omega) (fun g hg => hr g (by simp [hg]))
  | [], _ :: _, _, _, h, _, _ => by cases h
  | _ :: _, [], _, _, h, _, _ => by cases h
theorem Rd.struct {d : Kd α} {wf : α → Prop} {ts : List TypeId} (h : structAt P t ts = true) (k : RdFs P d ts wf) (f : β → α) (g : α → β) (hg : ∀ a, f (g a) = a) : Rd P (Kd.iso d f) t (fun x => wf (f x)) := by
  unfold structAt at h
  split at h
  · rename_i fs hu
    simp only [Bool.and_eq_true, beq_iff_eq] at h
    refine ⟨by rw [h.2, k.sz]; rfl, fun {H enc w base held n cs x} hr => ?_⟩
    obtain ⟨xs, m, _, _, hl, hxl, hf⟩ := DataW.trod_struct hu hr
    have := fsRead_of (enc := enc) (w := w) (base := base) (held := held) (n := m) (cs := cs) h.1 (by omega) (fun f hf' => by
      obtain ⟨i, hi⟩ := List.mem_iff_getElem?.1 hf'
      have hi2 : fs[i]? = some f := by rw [← hi]; simp
      have h5 := hf i f hi2
      have hlt : i < xs.length := by rw [hxl]; exact (Array.getElem?_eq_some_iff.1 hi2).1
      exact ⟨_, h5.trans (List.getElem?_eq_getElem hlt)⟩)
    rw [List.drop_zero] at this
    obtain ⟨a, ha, hw⟩ := k.rd this
    exact ⟨g a, fun W' hW' => by show d.K W' (f (g a)) cs; rw [hg]; exact ha W' hW', by show wf (f (g a)); rw [hg]; exact hw⟩
  · cases h
theorem Rd.arg {H : Type} {enc : TypeId × Value → H} {w : World} {base : Nat} {held : Bool} {v : Value} {ds : DataW H} {p : List MemPlace} {d : Kd α} {q : Nat} {wf : List α → Prop} (hd : Rd P (Kd.slice q d) t wf) (hv : v.cells.toList = [v]) (h : DataW.Trod enc P w base (fun _ => true) held t v ds p) :
    ∃ (A : Option Addr) (c : Nat) (xs : List α), v = .slice A xs.length c ∧ xs.length ≤ c ∧ Kd.F d w (fun _ => True) A xs.length xs ∧ wf xs := by
  obtain ⟨fuel, hf⟩ := h
  rw [hv] at hf
  obtain ⟨xs, hk, hw⟩ := hd.rd hf
  obtain ⟨A, c, h1, h2, h3⟩ := Kd.FK_slice_open hk
  exact ⟨A, c, xs, by simpa using h1, h2, h3, hw⟩
end
end Go.Proofs.YtomhkemdafiphaaGreatDoor.Lib2

/- Lemmas on the arena of the reference in memory, and Alloc at any kind and any words; each states its conditions. -/
import Derived.Test.YtoofnpecofcjjaaRefO
import Derived.Test.YtoofnpecofcjjaaAllocAny
namespace Go.Proofs.Ytoofnpecofcjjaa.Rf
open Go Go.RowKit Go.Proofs.Ytoofnpecofcjjaa.Heap Go.Proofs.Ytoofnpecofcjjaa.Word Go.Proofs.Ytoofnpecofcjjaa.Own Go.Proofs.Ytoofnpecofcjjaa.Ar
theorem IsRf.mono {w : World} {R S : Nat → Prop} {g size : Nat} {es : List RE} (h : IsRf w R g size es) (hs : ∀ b, R b → S b) : IsRf w S g size es :=
  ⟨by obtain ⟨A, c, h1, h2, h3⟩ := h.top; exact ⟨A, c, h1, h2, fun b hb => hs b (h3 b hb)⟩, h.pos, fun e he => ⟨(h.row e he).1, hs _ (h.row e he).2⟩, h.dif, h.ok, h.lo, h.hi, h.le, hs _ h.own⟩
theorem ob_lt {w : World} {base : Nat} {e : TypeId} {size n : Nat} {v : Value} {xs : List Value} (h : w.ownsRow base e size v n xs) {b : Nat} (hb : b ∈ ob v) : b < w.heap.size := by
  have := mem_ob.1 hb
  rcases h.2 with ⟨h1, _⟩ | ⟨g', cap, cur, h1, _, h3, _⟩
  · rw [h1] at this; simp [Value.ownBlock] at this
  · rw [h1] at this; simp [Value.ownBlock] at this
    subst this; exact blk_lt h3
theorem IsRf.shrink {w : World} {R : Nat → Prop} {g size : Nat} {es : List RE} (h : IsRf w R g size es) : IsRf w (fun b => R b ∧ b < w.heap.size) g size es := by
  obtain ⟨A, c, h1, h2, h3⟩ := h.top
  exact ⟨⟨A, c, h1, h2, fun b hb => ⟨h3 b hb, ob_lt h2 hb⟩⟩, h.pos, fun e he => ⟨(h.row e he).1, (h.row e he).2, ob_lt (h.row e he).1 (mem_ob.2 rfl)⟩, h.dif, h.ok, h.lo, h.hi, h.le, h.own, blk_lt h1⟩
theorem IsRf.keep {w w' : World} {R : Nat → Prop} {F : List Nat} {g size : Nat} {es : List RE} (h : IsRf w R g size es) (k : Chg F w w') (hF : ∀ b, b ∈ F → ¬ R b) : IsRf w' R g size es := by
  obtain ⟨A, c, h1, h2, h3⟩ := h.top
  exact ⟨⟨A, c, k.at h1 (fun hm => hF _ hm h.own), own_keep h2 k (fun b hb hm => hF b hm (h3 b (mem_ob.2 hb))), h3⟩, h.pos,
    fun e he => ⟨own_keep (h.row e he).1 k (fun b hb hm => hF b hm (by simp [Value.ownBlock] at hb; subst hb; exact (h.row e he).2)), (h.row e he).2⟩, h.dif, h.ok, h.lo, h.hi, h.le, h.own⟩
theorem IsRf.sub {w w' : World} {R : Nat → Prop} {g size : Nat} {es : List RE} (h : IsRf w R g size es) (k : Chg [] w w') : IsRf w' R g size es := h.keep k (by simp)
theorem ChgR.drawn {R : Nat → Prop} {w w1 : World} (h : ChgR R w w1) (n : Nat) : ChgR R w (w1.drewN n) := ⟨h.os, h.tape, h.output, h.size, h.block⟩
theorem ChgR.below {R : Nat → Prop} {w w1 w2 : World} {B : Nat} (h : Below B w w1) (k : ChgR R w1 w2) (hR : ∀ b, R b → B ≤ b) (hB : B ≤ w.heap.size) : Below B w w2 :=
  ⟨k.os.trans h.os, k.tape.trans h.tape, k.output.trans h.output, Nat.le_trans h.size k.size, fun b hb => (k.block b (by have := h.size; omega) (fun hr => by have := hR b hr; omega)).trans (h.block b hb)⟩
theorem own_keepR {w w' : World} {base : Nat} {e : TypeId} {size n : Nat} {v : Value} {xs : List Value} {R : Nat → Prop} (h : w.ownsRow base e size v n xs) (k : ChgR R w w') (hR : ∀ b, v.ownBlock = some b → ¬ R b) : w'.ownsRow base e size v n xs := by
  refine ⟨h.1, h.2.imp id ?_⟩
  rintro ⟨g, cap, cur, rfl, hb, hg, hr⟩
  exact ⟨g, cap, cur, rfl, hb, k.at hg (hR g rfl), hr⟩
theorem IsAr.keepR {w w' : World} {g bw bh size : Nat} {l : List Thing} {R : Nat → Prop} (h : IsAr w g bw bh size l) (k : ChgR R w w') (hg : ¬ R g) (hb : ¬ R bw) (hh : ¬ R bh) : IsAr w' g bw bh size l :=
  ⟨k.at h.pt hg, h.wd.imp fun _ hz => ⟨hz.1, k.at hz.2 hb⟩, h.hd.imp fun _ hz => ⟨hz.1, k.at hz.2 hh⟩, h.ok, h.lo, h.hi⟩
theorem ralloc_any {w : World} {R : Nat → Prop} {g size : Nat} {es : List RE} (h : IsRf w R g size es) (k : Int) (A : Option Addr) (c : Nat) (xs : List Int) (hv : Src w 1 (.slice A xs.length c) xs.length (nums .u64 xs)) (hR : ∀ b, w.heap.size ≤ b → R b) :
    Calls Try.prog 13 #[.pointer (some ⟨g, 0, none⟩), .int .i64 k, .slice A xs.length c] w fun e w' =>
      e = .returned (.tuple #[.int .u64 (allocA (es.map RE.th) size k xs).2.1, .int .i64 (allocA (es.map RE.th) size k xs).2.2]) ∧ (∃ es', es'.map RE.th = (allocA (es.map RE.th) size k xs).1 ∧ IsRf w' R g size es') ∧ ChgR R w w' := by
  by_cases h1 : k < 1 ∨ 9 < k ∨ 255 < xs.length
  · rw [show allocA (es.map RE.th) size k xs = (es.map RE.th, 0, 1) by unfold allocA; rw [if_pos h1]]
    refine (ralloc_bad k A xs.length c h1).mono ?_
    rintro e w1 ⟨rfl, rfl⟩
    exact ⟨rfl, ⟨es, rfl, h⟩, ChgR.refl _ _⟩
  · by_cases h2 : size ≤ tot (es.map RE.th) + xs.length
    · rw [show allocA (es.map RE.th) size k xs = (es.map RE.th, 0, 20) by unfold allocA; rw [if_neg h1, if_pos h2]]
      refine (ralloc_full h k A xs.length c (by omega) (by omega) (by omega) h2).mono ?_
      rintro e w1 ⟨rfl, n, rfl⟩
      exact ⟨rfl, ⟨es, rfl, h.sub ((Chg.refl _ _).draw n)⟩, (ChgR.refl _ _).drawn n⟩
    · rw [show allocA (es.map RE.th) size k xs = (es.map RE.th ++ [(k, xs)], (tot (es.map RE.th) : Int) * 8 + 1, 0) by unfold allocA; rw [if_neg h1, if_neg h2]]
      refine (ralloc_calls h k A c xs hv (by omega) (by omega) (by omega) (by omega) hR).mono ?_
      rintro e w1 ⟨rfl, ⟨b, c', h3⟩, h4⟩
      exact ⟨rfl, ⟨_, by rw [List.map_append]; rfl, h3⟩, h4⟩
/-- what may have changed in a round: blocks from B on, but those of F -/
def RN (B : Nat) (F : List Nat) : Nat → Prop := fun b => B ≤ b ∧ b ∉ F
theorem es_len {w : World} {R : Nat → Prop} {g size : Nat} {es : List RE} (h : IsRf w R g size es) : es.length ≤ 65536 := by
  have key : ∀ l : List RE, l.length ≤ tot (l.map RE.th) := by
    intro l
    induction l with
    | nil => exact Nat.zero_le _
    | cons a r ih => rw [List.map_cons, tot_cons, List.length_cons]; omega
  have := key es
  have := h.le
  have := h.hi
  omega
end Go.Proofs.Ytoofnpecofcjjaa.Rf

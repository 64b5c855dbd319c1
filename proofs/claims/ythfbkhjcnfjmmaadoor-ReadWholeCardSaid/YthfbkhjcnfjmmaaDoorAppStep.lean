/- Appending at a step of a region that draws its order; each states its conditions. -/
import Derived.Test.YthfbkhjcnfjmmaaDoorOwn
namespace Go.Proofs.YthfbkhjcnfjmmaaDoor.Own
open Go Go.RowKit Go.Proofs.YthfbkhjcnfjmmaaDoor.Heap
/-- append at a step of a region that draws -/
theorem app_step {P : Program} {W : World} {ops : Array Oper} {o : Oper} {a : Act} {K : Act → World → Prop} {Q : Exit → Act → World → Prop} {E : Prop} (hgd : o.guard = none) (s x : Operand) (t : TypeId) (ho : o.op = .call { callee := .builtin .append, args := #[s, x], argTypes := #[t, t] })
    (base : Nat) (e : TypeId) (z : Value) (size bytes : Nat) (ht : P.underlying t = some (.slice e)) (hinfo : (P.info? e).map (fun i => (i.zero, i.size, i.bytes)) = some (some z, size, bytes))
    (hzs : z.cells.size = size) (hsz : 0 < size) (hb0 : 0 < bytes) (v : Value) (n : Nat) (xs : List Value) (hs : a.eval s = v) (HO : W.ownsRow base e size v n xs) (u : Value) (m : Nat) (ys : List Value) (hx : a.eval x = u) (HR : Src W size u m ys) (h1 : ∀ u ∈ ys, u.oneCell' = true)
    (hbase : base ≤ W.heap.size) (hl : (n + m) * bytes ≤ 140737488355328)
    (h : ∀ B c w1, w1.ownsRow base e size (.slice B (n + m) c) (n + m) (xs ++ ys) → Chg (ob v) W w1 → ((Value.slice B (n + m) c).ownBlock = v.ownBlock ∨ (Value.slice B (n + m) c).ownBlock = some W.heap.size) → K (a.put o.dst (.slice B (n + m) c)) w1) :
    if Region.wanted o (yielded ops a.tmps) = true then Oper.wp P o a W K Q else E := by
  have hw : Region.wanted o (yielded ops a.tmps) = true := by simp [Region.wanted, hgd]
  rw [if_pos hw]
  obtain ⟨v1, w1, hr, h2, h3, h4⟩ := app_run (P := P) base t e z size bytes ht hinfo hzs hsz hb0 v n xs HO u m ys HR h1 hbase hl o.type
  unfold Oper.wp execOp
  simp only [ho, resolve, invoke, builtin, Sem.run_bind, Sem.run_pure, Result.andThen_ok, List.map_toArray, List.map_cons, List.map_nil, hs, hx, hr]
  obtain ⟨B, c, rfl⟩ := own_slice h2
  exact h B c w1 h2 h3 h4
/-- append([]T{}, u...) at a step of a region that draws -/
theorem app_step_lit {P : Program} {W : World} {ops : Array Oper} {o : Oper} {a : Act} {K : Act → World → Prop} {Q : Exit → Act → World → Prop} {E : Prop} (hgd : o.guard = none) (s x : Operand) (t : TypeId) (ho : o.op = .call { callee := .builtin .append, args := #[s, x], argTypes := #[t, t] })
    (e : TypeId) (z : Value) (size bytes : Nat) (ht : P.underlying t = some (.slice e)) (hinfo : (P.info? e).map (fun i => (i.zero, i.size, i.bytes)) = some (some z, size, bytes))
    (hzs : z.cells.size = size) (hsz : 0 < size) (hb0 : 0 < bytes) (hs : a.eval s = .slice (some ⟨W.heap.size, 0, none⟩) 0 0) (u : Value) (m : Nat) (ys : List Value) (hx : a.eval x = u) (HR : Src W size u m ys) (h1 : ∀ u ∈ ys, u.oneCell' = true)
    (hl : m * bytes ≤ 140737488355328)
    (h : ∀ b c w1, w1.ownsRow 0 e size (.slice (some ⟨b, 0, none⟩) m c) m ys → W.heap.size ≤ b → Chg [] W w1 → K (a.put o.dst (.slice (some ⟨b, 0, none⟩) m c)) w1) :
    if Region.wanted o (yielded ops a.tmps) = true then Oper.wp P o a (W.alloc (.cells #[] e)) K Q else E := by
  refine app_step hgd s x t ho 0 e z size bytes ht hinfo hzs hsz hb0 _ 0 [] hs ⟨(own_lit0 W e size).1, ?_⟩ u m ys hx (HR.grow ((Chg.refl _ _).alloc _)) h1 (Nat.zero_le _) (by simpa using hl) ?_
  · rcases (own_lit0 W e size).2 with hh | ⟨g, c, cur, h1, h2, h3⟩
    · exact .inl hh
    · exact .inr ⟨g, c, cur, h1, Nat.zero_le _, h3⟩
  intro B c w1 ho hc hb
  rw [Nat.zero_add] at ho hb ⊢
  have hC : Chg [] W w1 := ((Chg.refl [] W).alloc _).trans hc (fun b hb => by
    have := mem_ob.1 hb
    simp [Value.ownBlock] at this
    exact .inr (by omega))
  rcases ho.2 with ⟨h2, h3⟩ | ⟨g, cap, cur, h2, _⟩
  · simp only [Value.slice.injEq] at h2
    rw [h2.1] at hb
    simp [Value.ownBlock] at hb
  · simp only [Value.slice.injEq] at h2
    rw [h2.1] at ho hb ⊢
    refine h g c w1 (by simpa using ho) ?_ hC
    simp [Value.ownBlock] at hb
    omega
theorem own_base {w : World} {base : Nat} {e : TypeId} {size n : Nat} {v : Value} {xs : List Value} (h : w.ownsRow base e size v n xs) : w.ownsRow 0 e size v n xs :=
  ⟨h.1, h.2.imp id (fun ⟨g, c, cur, h1, _, h3⟩ => ⟨g, c, cur, h1, Nat.zero_le _, h3⟩)⟩
end Go.Proofs.YthfbkhjcnfjmmaaDoor.Own

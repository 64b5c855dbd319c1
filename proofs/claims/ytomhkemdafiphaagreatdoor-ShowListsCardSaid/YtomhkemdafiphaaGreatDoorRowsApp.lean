/- Rows appended to rows, as kinds; each states its conditions. -/
import Derived.Test.YtomhkemdafiphaaGreatDoorAppStep
import Derived.Test.YtomhkemdafiphaaGreatDoorWWords
namespace Go.Proofs.YtomhkemdafiphaaGreatDoor.Lib2
open Go Go.RowKit Go.Proofs.YtomhkemdafiphaaGreatDoorW.PrintWords
section
variable {α : Type} {W : World} {g base e : Nat} {xs : List α} {cs : List Value}
theorem blk_at {t : TypeId} {cs : Array Value} (h : W.heap[g]? = some (.cells cs t (0, 0))) (i : Nat) : W.cell? ⟨g, i, none⟩ = cs[i]? := cell_of_row W g i cs t (0, 0) h
/-- a block that is known whole, as a row of the call's own -/
theorem R_blk (d : Kd α) {ok okp : Nat → Prop} (hb : W.heap[g]? = some (.cells cs.toArray e (0, 0))) (hg : base ≤ g) (hr : Reps (d.M W base okp) d.sz xs cs) (hokp : ∀ k, okp k → ok k ∧ k ≠ g) (hok : ok g) (hm : xs.length ≤ 9223372036854775807) :
    d.R e W base ok (.slice (some ⟨g, 0, none⟩) xs.length xs.length) xs := by
  refine ⟨fun k hk => ?_, cs, ⟨hr.1, .inr ⟨g, xs.length, _, rfl, hg, hb, Nat.le_refl _, by simpa [maxLen] using hm, by simpa using hr.1, ?_⟩⟩, ?_⟩
  · simp only [Value.ownBlock, Option.some.injEq] at hk
    subst hk; exact hok
  · rw [List.take_of_length_le (by simp [hr.1])]
  · refine hr.imp_ (fun p c hp => d.M_mono (fun k hk => ⟨(hokp k hk).1, fun he => (hokp k hk).2 ?_⟩) hp)
    simpa [Value.ownBlock] using he
/-- and as one that is read -/
theorem C_blk (d : Kd α) (hb : W.heap[g]? = some (.cells cs.toArray e (0, 0))) (hr : Reps (d.K W) d.sz xs cs) (hm : xs.length ≤ 9223372036854775807) : d.C W (some ⟨g, 0, none⟩) xs.length xs := by
  refine ⟨rfl, hm, fun _ => ⟨_, rfl, fun j p hp => ⟨_, ?_, hr.2 j p hp, fun i u hu => ?_⟩⟩⟩
  · have h1 := (List.getElem?_eq_some_iff.1 hp).1
    have h2 : (j + 1) * d.sz ≤ xs.length * d.sz := Nat.mul_le_mul_right _ h1
    rw [Nat.add_mul, Nat.one_mul] at h2
    simp [hr.1]; omega
  · rw [show (⟨g, 0, none⟩ : Addr).add (j * d.sz + i) = ⟨g, j * d.sz + i, none⟩ by unfold Addr.add; split <;> simp_all, blk_at hb]
    have h1 := (List.getElem?_eq_some_iff.1 hu).1
    rw [List.getElem?_take_of_lt (by simp at h1; omega), List.getElem?_drop] at hu
    simpa using hu
end
open Go Go.RowKit Go.Proofs.YtomhkemdafiphaaGreatDoor.Heap Go.Proofs.YtomhkemdafiphaaGreatDoorW.PrintWords Go.Proofs.YtomhkemdafiphaaGreatDoor.Own
theorem src_blk {W : World} {k : Nat} {cs : List Value} {t : TypeId} {size n c : Nat} (h : W.heap[k]? = some (.cells cs.toArray t (0, 0))) (hn : cs.length = n * size) : Src W size (.slice (some ⟨k, 0, none⟩) n c) n cs := by
  refine ⟨hn, _, _, rfl, fun _ => ⟨_, rfl, fun j u hu => ?_⟩⟩
  rw [add_flat, Nat.zero_add, Heap.blk_cell h]
  simpa using hu
/-- append([]T{}, u...), another row made meanwhile -/
theorem app_step_lit2 {P : Program} {W : World} {ops : Array Oper} {o : Oper} {a : Act} {K : Act → World → Prop} {Q : Exit → Act → World → Prop} {E : Prop} (hgd : o.guard = none) (s x : Operand) (t : TypeId) (ho : o.op = .call { callee := .builtin .append, args := #[s, x], argTypes := #[t, t] })
    (e : TypeId) (z : Value) (size bytes : Nat) (ht : P.underlying t = some (.slice e)) (hinfo : (P.info? e).map (fun i => (i.zero, i.size, i.bytes)) = some (some z, size, bytes))
    (hzs : z.cells.size = size) (hsz : 0 < size) (hb0 : 0 < bytes) (hs : a.eval s = .slice (some ⟨W.heap.size, 0, none⟩) 0 0) (u : Value) (m : Nat) (ys : List Value) (hx : a.eval x = u) (o2 : Obj) (HR : Src W size u m ys) (h1 : ∀ u ∈ ys, u.oneCell' = true)
    (hl : m * bytes ≤ 140737488355328)
    (h : ∀ B c w1, w1.ownsRow 0 e size (.slice B m c) m ys → (∀ k, k ∈ ob (.slice B m c) → W.heap.size ≤ k) → Chg [W.heap.size] ((W.alloc (.cells #[] e)).alloc o2) w1 → K (a.put o.dst (.slice B m c)) w1) :
    if Region.wanted o (yielded ops a.tmps) = true then Oper.wp P o a ((W.alloc (.cells #[] e)).alloc o2) K Q else E := by
  refine app_step hgd s x t ho 0 e z size bytes ht hinfo hzs hsz hb0 _ 0 [] hs (own_keep (own_base (own_lit0 W e size)) ((Chg.refl [] _).alloc o2) (by simp)) u m ys hx (HR.grow (((Chg.refl [] W).alloc _).alloc _)) h1 (Nat.zero_le _) (by simpa using hl) ?_
  intro B c w1 ho hc hb
  rw [Nat.zero_add] at ho ⊢
  refine h B c w1 (by simpa using ho) (fun k hk => ?_) (hc.mono (by simp [ob, Value.ownBlock]))
  have hk := mem_ob.1 hk
  rw [Nat.zero_add] at hb
  rcases hb with hb | hb
  · rw [hb] at hk; simp [Value.ownBlock] at hk; omega
  · rw [hb] at hk; simp at hk; omega
/-- a row of the call's own whose cells read as xs -/
theorem own_C {α : Type} (d : Kd α) {W : World} {base e m : Nat} {v : Value} {cs : List Value} {xs : List α} (h : W.ownsRow base e d.sz v m cs) (hm : m = xs.length) (hr : Reps (d.K W) d.sz xs cs) : ∃ A c, v = .slice A m c ∧ m ≤ c ∧ d.C W A m xs := by
  subst hm
  obtain ⟨A, c, h1, h2, h3⟩ := OwnRow.reads (R := d.K W) ⟨cs, h, hr⟩
  exact ⟨A, c, h1, h2, h3⟩
theorem C_src {α : Type} {d : Kd α} {W : World} {A : Option Addr} {c : Nat} {xs : List α} (h : d.C W A xs.length xs) (hp : 0 < xs.length) : ∃ ys, Reps (d.K W) d.sz xs ys ∧ Src W d.sz (.slice A xs.length c) xs.length ys ∧ ∀ u ∈ ys, u.oneCell' = true := by
  obtain ⟨ad, rfl, _⟩ := h.2.2 hp
  obtain ⟨ys, h1, h2⟩ := ReadsRow.inner_ h
  refine ⟨ys, h1, ⟨h1.1, _, _, rfl, fun _ => ⟨ad, rfl, h2⟩⟩, fun u hu => ?_⟩
  obtain ⟨j, hj⟩ := List.mem_iff_getElem?.1 hu
  have hlt := (List.getElem?_eq_some_iff.1 hj).1
  have hl := h1.1
  by_cases h0 : d.sz = 0
  · rw [h0] at hl; simp at hl; subst hl; simp at hj
  · have hq : j / d.sz < xs.length := by rw [Nat.div_lt_iff_lt_mul (by omega)]; omega
    have := h1.2 (j / d.sz) _ (List.getElem?_eq_getElem hq)
    refine d.K_one this u (List.mem_iff_getElem?.2 ⟨j % d.sz, ?_⟩)
    rw [List.getElem?_take_of_lt (Nat.mod_lt _ (by omega)), List.getElem?_drop, Nat.mul_comm, Nat.div_add_mod, hj]
theorem K_mono {α : Type} {d : Kd α} {W W' : World} {xs : List α} {ys : List Value} (h : Reps (d.K W) d.sz xs ys) (hb : Below W.heap.size W W') : Reps (d.K W') d.sz xs ys := h.imp_ (fun _ _ hp => d.K_below hb hp)
end Go.Proofs.YtomhkemdafiphaaGreatDoor.Lib2

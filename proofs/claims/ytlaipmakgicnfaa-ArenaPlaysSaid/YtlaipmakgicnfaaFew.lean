/- The contract of few: the first 80 acts, each with its words cut to 260; its premises are what the reading gives. -/
import Derived.Test.YtlaipmakgicnfaaActRead
namespace Go.Proofs.Ytlaipmakgicnfaa.Own
open Go Go.RowKit Go.Proofs.Ytlaipmakgicnfaa.Heap Go.Proofs.Ytlaipmakgicnfaa.Own
attribute [local go_sem] max2_int min2_int max_two min_two
/-- an act whose words are cut -/
def cutAct (a : AAct) : AAct := { a with len := min a.len 260 }
theorem infoAct : (Try.prog.info? 37).map (fun i => (i.zero, i.size, i.bytes)) = some (some (.agg #[.int .u8 0, .int .i64 0, .int .i64 0, .int .u64 0, .int .u64 0, .slice none 0 0]), 6, 64) := by kernel_rfl
theorem cut_cells (a : AAct) (x : Nat) (h : x ≤ a.len) (h2 : x ≤ 260) (h3 : x = a.len ∨ x = 260) : (cutAct a).cells = [.int .u8 a.kind, .int .i64 a.n, .int .i64 a.i, .int .u64 a.w, .int .u64 a.x, .slice a.A x a.cap] := by
  have : min a.len 260 = x := by omega
  simp [cutAct, AAct.cells, this]
theorem act_one (a : AAct) : ∀ u ∈ a.cells, u.oneCell' = true := by
  intro u hu; simp only [AAct.cells, List.mem_cons, List.not_mem_nil, or_false] at hu
  rcases hu with rfl | rfl | rfl | rfl | rfl | rfl <;> rfl
set_option maxHeartbeats 1000000 in
theorem few_calls (A : Option Addr) (c : Nat) (al : List AAct) (w : World) (hs : Src w 6 (.slice A al.length c) al.length (al.flatMap AAct.cells)) (hok : ∀ a ∈ al, a.Ok w) (hlc : al.length ≤ c) (hc : c ≤ maxLen) :
    Calls Try.prog 11 #[.slice A al.length c] w fun e w' => ∃ B k, e = .returned (.slice B (al.take 80).length k) ∧
      w'.ownsRow w.heap.size 37 6 (.slice B (al.take 80).length k) (al.take 80).length (((al.take 80).map cutAct).flatMap AAct.cells) ∧ Chg [] w w' := by
  go_enter Try.func11, Try.ntmps11
  go_wp2_with fail
  unfold maxLen at hc
  have h0 := World.ownsRow_nil w w.heap.size 37 6
  go_loopw [8, 3] (fun i v wr => ∃ (k q : Nat) (B : Option Addr) (b : Nat), k ≤ al.length ∧ i = .int .i64 k ∧ Hid (q = min k 80) ∧ v = .slice B q b ∧
    wr.ownsRow w.heap.size 37 6 (.slice B q b) q (((al.take q).map cutAct).flatMap AAct.cells) ∧ Chg [] w wr) (fun i _ _ => al.length - (intOf i).toNat)
  case atStart => exact ⟨0, 0, none, 0, Nat.zero_le _, rfl, Lib.hid rfl, rfl, h0, Chg.refl _ _⟩
  case round =>
    obtain ⟨k, q, B, b, hk, rfl, HQ, rfl, hor, hcr⟩ := hrel
    by_cases hlt : k < al.length
    · obtain ⟨a, ha⟩ : ∃ a, al[k]? = some a := ⟨_, List.getElem?_eq_getElem hlt⟩
      obtain ⟨ab, ao, rfl, hab, hcell⟩ := (hs.grow hcr).pl (by omega) (by decide)
      have cell : ∀ (j : Nat) (u : Value), a.cells[j]? = some u → wr.cell? ⟨ab, ao + k * 6 + j, none⟩ = some u := by
        intro j u hu
        have hj : j < 6 := (List.getElem?_eq_some_iff.1 hu).1
        rw [Nat.add_assoc]
        exact hcell _ _ (by rw [flat_get AAct.cells 6 (fun _ => rfl) al k j a ha hj]; exact hu)
      have q0 := cell 0 _ rfl
      rw [Nat.add_zero] at q0
      have q1 := cell 1 _ rfl
      have q2 := cell 2 _ rfl
      have q3 := cell 3 _ rfl
      have q4 := cell 4 _ rfl
      have q5 := cell 5 _ rfl
      obtain ⟨x, hmin, x1, x2, x3⟩ := min_nat a.len 260 260 rfl
      have hlc' : a.len ≤ a.cap := by
        have := (hok a (List.mem_of_getElem? ha)).l
        rcases this with ⟨_, h1, h2, _⟩ | ⟨_, _, h, _⟩ <;> omega
      clear cell hcell
      have HC := Lib.hid hcr
      have hsz := hcr.size
      by_cases h80 : k < 80
      · have hq : q = k := by have := HQ.out; omega
        subst hq
        have t1 : decide ((q : Int) < 80) = true := by simp; omega
        have HS := src_new (W := wr.alloc (.cells #[.int .u8 a.kind, .int .i64 a.n, .int .i64 a.i, .int .u64 a.w, .int .u64 a.x, .slice a.A x a.cap] 37)) (cutAct a).cells 37 6 1 1 (wr.heap.size + 1) rfl (by simp)
        rw [cut_cells a x x1 x2 x3] at HS
        have HS' := Lib.hid HS
        have HO := Lib.hid hor
        have HB : Hid (∀ b', b' ∈ ob (.slice B q b) → b' ∈ ([] : List Nat) ∨ w.heap.size ≤ b') := Lib.hid (fun b' hb' => .inr (hor.lt b' (mem_ob.1 hb')).1)
        clear hor hcr h0 HS
        go_wp2_with (at_builtin; refine app rfl (.tmp 23) (.tmp 25) 22 rfl w.heap.size 37 _ 6 64 actU infoAct rfl (by decide) (by decide) _ q _ rfl ((HO.out.alloc _).alloc _) _ 1 _ rfl HS'.out (by rw [← cut_cells a x x1 x2 x3]; exact act_one _) (by simp; omega) (by omega) ?_; intro B2 c2 w3 ho3 hc3 _)
        go_roundw
        case rel =>
          refine ⟨q + 1, q + 1, B2, c2, by omega, by go_num, Lib.hid (by omega), rfl, ?_, ((HC.out.alloc _).alloc _).trans hc3 HB.out⟩
          have e : al.take (q + 1) = al.take q ++ [a] := by rw [List.take_add_one, ha]; rfl
          rw [e, List.map_append, List.flatMap_append]
          simp only [List.map_cons, List.map_nil, List.flatMap_cons, List.flatMap_nil, List.append_nil]
          rw [cut_cells a x x1 x2 x3]
          exact ho3
        case measure => simp [intOf]; omega
      · have t1 : decide ((k : Int) < 80) = false := by simp; omega
        have HO := Lib.hid hor
        clear hor hcr h0
        go_wp2_with fail
        go_roundw
        case rel => exact ⟨k + 1, q, B, b, by omega, by go_num, Lib.hid (by have := HQ.out; omega), rfl, HO.out.alloc _, HC.out.alloc _⟩
        case measure => simp [intOf]; omega
    · have hk2 : k = al.length := by omega
      have hq : q = (al.take 80).length := by have := HQ.out; simp; omega
      subst hq
      have HO := Lib.hid hor
      have HC := Lib.hid hcr
      clear hor hcr h0
      go_wp2_with fail
      go_ret
      refine ⟨_, _, rfl, ?_, HC.out⟩
      have e : al.take (al.take 80).length = al.take 80 := by rw [List.length_take, List.take_eq_take_iff]; omega
      have := HO.out
      rw [e] at this
      exact this
end Go.Proofs.Ytlaipmakgicnfaa.Own

/- The contract of show.Datum; each states its conditions. -/
import Derived.Test.YtomhkemdafiphaaGreatDoorShowC1
import Derived.Test.YtomhkemdafiphaaGreatDoorMayC
namespace Go.Proofs.YtomhkemdafiphaaGreatDoor.ShowC
open Go Go.RowKit Go.Proofs.YtomhkemdafiphaaGreatDoor.Heap Go.Proofs.YtomhkemdafiphaaGreatDoor.ReadP Go.Proofs.YtomhkemdafiphaaGreatDoor.TreeP Go.Proofs.YtomhkemdafiphaaGreatDoor.ShowP Go.Proofs.YtomhkemdafiphaaGreatDoor.ShowB
open Go.Proofs.YtomhkemdafiphaaGreatDoor.ReadM (RI RN nodeC intOf6)
open Go.Lib (itoa byteCells)
theorem datum_calls {w0 : World} {vL : Value} {rs : List (Nd × Value)} {L : List Nd} (D : Dat w0 vL rs L) (hT : Tab w0) {B b : Nat} {T : TypeId} {rest : List Value} (hB : w0.heap.size ≤ B) : ∀ (n m : Nat), m ≤ n → m ≤ L.length → DatCon w0 vL B b T rest m (datX L n)
  | 0, m, h, _ => fun k w t hk => by omega
  | n + 1, m, h, hm => fun k w t hk hold hb hlen => datum_step D hT hB (datX L n) k (datum_calls D hT hB n k (by omega) (by omega)) w t (by omega) hold hb hlen
/-- a datum's text, if the row is one of data and has it -/
def datumP (L : List Nd) (i : Int) : Option (List UInt8) := if mayF 0 [] L = true ∧ 0 ≤ i ∧ i < L.length then some (datX L L.length i) else none
/-- what Datum answers -/
def datumE (x : Option (List UInt8)) : Ending := match x with
  | none => .returned (.tuple #[.string ⟨#[]⟩, .int .i64 1])
  | some t => .returned (.tuple #[.string ⟨t.toArray⟩, .int .i64 0])
theorem liesB : liesAt Tryz.prog Tryz.prog.depth 74 ((([] : List Value).length + 2) / Tryz.prog.cellsOf 74) 0 74 1 = true := by kernel_rfl
theorem nd_field {L : List Nd} {α : Type} (f : Nd → α) (P : α → Prop) (h0 : P (f ⟨0, 0, 0, [], []⟩)) (h : ∀ x ∈ L, P (f x)) (i : Int) : P (f (nd L i)) := by
  unfold nd
  rw [List.getD_eq_getElem?_getD]
  cases hx : L[i.toNat]? with
  | none => exact h0
  | some x => exact h x (List.mem_of_getElem? hx)
set_option maxHeartbeats 4000000 in
set_option maxRecDepth 100000 in
theorem show_calls {w : World} {vL : Value} {rs : List (Nd × Value)} (h : RN w vL rs) (hl : rs.length ≤ 10000) (hl2 : ∀ p ∈ rs, p.1.l.length ≤ 10000) (hwf : ∀ p ∈ rs, -9223372036854775808 ≤ p.1.n ∧ p.1.n < 9223372036854775808) (hs : ∀ p ∈ rs, p.1.s.length ≤ 10000) (hT : Tab w) (i : Int) :
    Calls Tryz.prog 10 #[vL, .int .i64 i] w fun e w' => e = datumE (datumP (rs.map (·.1)) i) ∧ Chg [] w w' := by
  have MC := Lib.hid (Go.Proofs.YtomhkemdafiphaaGreatDoor.ReadM.may_calls rs vL w h hl hl2 hwf)
  obtain ⟨A, c, hv, hc, _⟩ := id h
  have HRN := Lib.hid h
  have HT := Lib.hid hT
  have hlen : rs.length = (rs.map (·.1)).length := by rw [List.length_map]
  have DD : Hid (∀ w1, Chg [] w w1 → mayF 0 [] (rs.map (·.1)) = true → Dat w1 vL rs (rs.map (·.1))) := Lib.hid (fun w1 k hm => ⟨h.chg k, rfl, by rw [← hlen]; exact hl, fun x hx => by obtain ⟨p, hp, rfl⟩ := List.mem_map.1 hx; exact hl2 p hp, (Tree.of_may hm).ahead, fun x hx => by obtain ⟨p, hp, rfl⟩ := List.mem_map.1 hx; exact hwf p hp⟩)
  have DL : Hid (mayF 0 [] (rs.map (·.1)) = true → ∀ k : Nat, k < (rs.map (·.1)).length → (datX (rs.map (·.1)) (rs.map (·.1)).length (k : Int)).length ≤ 1000000000) := Lib.hid (fun hm k hk => by
    have hz : ∀ i : Nat, (itoa (nd (rs.map (·.1)) (i : Int)).n).length ≤ 24 := fun i => by
      have := nd_field (L := rs.map (·.1)) (·.n) (fun n => -9223372036854775808 ≤ n ∧ n < 9223372036854775808) ⟨by decide, by decide⟩ (fun x hx => by obtain ⟨p, hp, rfl⟩ := List.mem_map.1 hx; exact hwf p hp) (i : Int)
      have := Lib.itoa_length_le (nd (rs.map (·.1)) (i : Int)).n this.1 (by have := this.2; omega)
      omega
    have h1 : ∀ i : Nat, (nd (rs.map (·.1)) (i : Int)).s.length ≤ 10000 := fun i => nd_field (L := rs.map (·.1)) (·.s) (fun s => s.length ≤ 10000) (by simp) (fun x hx => by obtain ⟨p, hp, rfl⟩ := List.mem_map.1 hx; exact hs p hp) (i : Int)
    have h2 : ∀ i : Nat, (nd (rs.map (·.1)) (i : Int)).l.length ≤ 10000 := fun i => nd_field (L := rs.map (·.1)) (·.l) (fun l => l.length ≤ 10000) (by simp) (fun x hx => by obtain ⟨p, hp, rfl⟩ := List.mem_map.1 hx; exact hl2 p hp) (i : Int)
    have := dat_len (Tree.of_may hm) 20024 hz (fun i => by have := h1 i; have := h2 i; omega) (rs.map (·.1)).length (k : Int) (by omega) (by omega)
    have h3 : ((k : Int).toNat + 1) * 20024 ≤ 10000 * 20024 := Nat.mul_le_mul_right _ (by omega)
    omega)
  clear hs hwf hl2
  rw [hlen] at hv hl
  generalize rs.map (·.1) = L at *
  rw [hv] at MC DD ⊢
  clear hv h hc hlen hT
  have bl0 : (0 : Int) ≤ (L.length : Int) := by omega
  have bl1 : (L.length : Int) ≤ 10000 := by omega
  cases hm : mayF 0 [] L with
  | false =>
    have hans : datumP L i = none := by unfold datumP; rw [if_neg (by simp [hm])]
    have HANS := Lib.hid hans
    have HM := Lib.hid hm
    clear hans hm
    go_enter Tryz.func10, Tryz.ntmps10
    go_wp2_with fail
    refine MC.out.mono ?_
    rintro e w1 ⟨rfl, hb⟩
    rw [show mayF 0 [] L = false from HM]
    have K1 := Lib.hid (Chg.of_below (F := []) hb)
    clear hb
    go_wp2_with fail
    go_ret2
    rw [HANS.out]
    exact ⟨rfl, K1.out⟩
  | true =>
    by_cases hi0 : i < 0
    · have c0 : decide (i < 0) = true := decide_eq_true hi0
      have hans : datumP L i = none := by unfold datumP; rw [if_neg (by omega)]
      have HANS := Lib.hid hans
      have HM := Lib.hid hm
      clear hans hm hi0
      go_enter Tryz.func10, Tryz.ntmps10
      go_wp2_with fail
      refine MC.out.mono ?_
      rintro e w1 ⟨rfl, hb⟩
      rw [show mayF 0 [] L = true from HM]
      have K1 := Lib.hid (Chg.of_below (F := []) hb)
      clear hb
      go_wp2_with fail
      go_ret2
      rw [HANS.out]
      exact ⟨rfl, K1.out⟩
    · obtain ⟨k, rfl⟩ : ∃ k : Nat, i = (k : Int) := ⟨i.toNat, by omega⟩
      have c0 : decide ((k : Int) < 0) = false := decide_eq_false hi0
      by_cases hk : k < L.length
      · have c1 : decide ((L.length : Int) ≤ (k : Int)) = false := decide_eq_false (by omega)
        have c1' : decide (L.length ≤ k) = false := decide_eq_false (by omega)
        have hans : datumP L (k : Int) = some (datX L L.length (k : Int)) := by unfold datumP; rw [if_pos ⟨hm, by omega, by omega⟩]
        have HANS := Lib.hid hans
        have HM := Lib.hid hm
        have DC := Lib.hid (fun w1 (k1 : Chg [] w w1) B b T rest (hB : w1.heap.size ≤ B) => datum_calls (B := B) (b := b) (T := T) (rest := rest) (DD.out w1 k1 hm) (HT.out.chg k1) hB L.length L.length (Nat.le_refl _) (Nat.le_refl _) k)
        have HL := Lib.hid (DL.out hm k hk)
        have HK := Lib.hid hk
        clear hans hm hi0 hk DL DD
        go_enter Tryz.func10, Tryz.ntmps10
        go_wp2_with fail
        refine MC.out.mono ?_
        rintro e w1 ⟨rfl, hb⟩
        rw [show mayF 0 [] L = true from HM]
        have K1 := Lib.hid (Chg.of_below (F := []) hb)
        clear hb
        have k2 : Chg [] w1 (w1.alloc (.cells #[.pointer none, .slice none 0 0] 74)) := (Chg.refl [] w1).alloc _
        have DC1 := Lib.hid (DC.out w1 K1.out w1.heap.size w1.heap.size 74 [] (Nat.le_refl _) (w1.alloc (.cells #[.pointer none, .slice none 0 0] 74)) [] HK.out k2 (.inl ⟨Nat.le_refl _, by decide, liesB, .slice none 0 0, blk_new rfl, World.ownsRow_nil _ _ _ _, by simp [Value.ownBlock]⟩) (by simpa using HL.out))
        have K2 := Lib.hid k2
        clear k2 DC
        go_wp2_with fail
        refine DC1.out.mono ?_
        rintro e w3 ⟨rfl, hA, hS⟩
        have SC := Lib.hid (string_calls hA)
        have HS := Lib.hid hS
        clear hA hS DC1
        go_wp2_with fail
        refine SC.out.mono ?_
        rintro e w4 ⟨rfl, hb4⟩
        have HB4 := Lib.hid hb4
        clear hb4
        go_wp2_with fail
        go_ret2
        rw [HANS.out]
        exact ⟨rfl, K1.out.sub (Chg.of_below ((K2.out.below.trans HS.out.below).trans HB4.out))⟩
      · have c1 : decide ((L.length : Int) ≤ (k : Int)) = true := decide_eq_true (by omega)
        have c1' : decide (L.length ≤ k) = true := decide_eq_true (by omega)
        have hans : datumP L (k : Int) = none := by unfold datumP; rw [if_neg (by omega)]
        have HANS := Lib.hid hans
        have HM := Lib.hid hm
        clear hans hm hi0 hk
        go_enter Tryz.func10, Tryz.ntmps10
        go_wp2_with fail
        refine MC.out.mono ?_
        rintro e w1 ⟨rfl, hb⟩
        rw [show mayF 0 [] L = true from HM]
        have K1 := Lib.hid (Chg.of_below (F := []) hb)
        clear hb
        go_wp2_with fail
        go_ret2
        rw [HANS.out]
        exact ⟨rfl, K1.out⟩
end Go.Proofs.YtomhkemdafiphaaGreatDoor.ShowC

/- Contracts of digits and text of the law LexBack; each states its conditions. -/
import Derived.Test.YtkgfnkilanpaoaaDoorLexP3
import Derived.Test.YtkgfnkilanpaoaaDoorLexC5
import Derived.Laws.IdiomStrings
import Derived.Maps.OwnOps
import Derived.Maps.Views
import Derived.Maps.StringElems
namespace Go.Proofs.YtkgfnkilanpaoaaDoor.LexC
open Go Go.RowKit Go.Proofs.YtkgfnkilanpaoaaDoor.LexP Go.Proofs.YtkgfnkilanpaoaaDoor.LexC Go.Proofs.YtkgfnkilanpaoaaDoor.Own Go.Proofs.YtkgfnkilanpaoaaDoorW.PrintWords
theorem dig1 (d : Nat) (w : World) (h : d < 10) : Calls Tryd.prog 20 #[.int .i64 d] w fun e w' => e = .returned (.string ⟨#[digB d]⟩) ∧ Below w.heap.size w w' := by
  have hb := (dig_byte d h).2.1
  have c1 : decide ((d : Int) < -4398046511104) = false := decide_eq_false (by omega)
  have c2 : decide ((d : Int) < 0) = false := decide_eq_false (by omega)
  have c3 : decide (9 < (d : Int)) = false := decide_eq_false (by omega)
  have c4 : decide (9 < d) = false := decide_eq_false (by omega)
  have b0 : (0 : Int) ≤ (d : Int) := by omega
  have b1 : (d : Int) < 10 := by omega
  have KC : (convert 35 9 (.slice (some ⟨w.heap.size, 0, none⟩) 1 1)).run Tryd.prog (w.alloc (.cells #[.int .u8 (48 + (d : Int))] 5)) = .ok (.string ⟨#[digB d]⟩) (w.alloc (.cells #[.int .u8 (48 + (d : Int))] 5)) :=
    run_convert_bytes_back _ 35 9 5 ⟨w.heap.size, 0, none⟩ 1 [digB d] Tryd.underlying35 Tryd.underlying5 Tryd.underlying9 (fun j hj => by
      have : j = 0 := by simpa using hj
      subst this
      rw [add_flat, Heap.blk_cell (Heap.blk_new rfl)]
      show some (Value.int .u8 (48 + (d : Int))) = some (Value.int .u8 (((digB d).toNat : Nat) : Int))
      rw [hb]; congr 2)
  clear hb h
  go_enter Tryd.func20, Tryd.ntmps20
  go_wp2
  go_ret
  exact ⟨rfl, below_alloc (Below.refl _ _) _⟩
theorem dig_nat : ∀ (f n : Nat) (w : World), 0 < f → f ≤ 14 → n < 10 ^ f → Calls Tryd.prog 20 #[.int .i64 n] w fun e w' => e = .returned (.string ⟨(decN f n).toArray⟩) ∧ Below w.heap.size w w'
  | 0, _, _, h, _, _ => by omega
  | f + 1, n, w, _, hf, hn => by
    unfold decN
    by_cases h10 : n < 10
    · rw [if_pos h10]; exact dig1 n w h10
    · rw [if_neg h10]
      have hf0 : 0 < f := by
        match f with
        | 0 => simp at hn; omega
        | f + 1 => omega
      have h14 : 10 ^ (f + 1) ≤ 10 ^ 14 := Nat.pow_le_pow_right (by omega) hf
      have hn14 : n < 100000000000000 := by omega
      have hlt : n / 10 < 10 ^ f := by rw [Nat.pow_succ] at hn; omega
      have ih := fun w => dig_nat f (n / 10) w hf0 (by omega) hlt
      have i1 := fun w => dig1 (n % 10) w (by omega)
      have hl := decN_le f (n / 10)
      generalize hL : decN f (n / 10) = L at *
      have hsz : (⟨L.toArray⟩ : ByteArray).size ≤ 14 := by
        rw [Lib.size_eq]; simp; omega
      obtain ⟨S, hS⟩ : ∃ S : ByteArray, S = ⟨L.toArray⟩ := ⟨_, rfl⟩
      rw [← hS] at hsz ih
      have HSE := Lib.hid hS
      have IH := Lib.hid ih
      have I1 := Lib.hid i1
      have c1 : decide ((n : Int) < -4398046511104) = false := decide_eq_false (by omega)
      have c2 : decide ((n : Int) < 0) = false := decide_eq_false (by omega)
      have c3 : decide (9 < (n : Int)) = true := decide_eq_true (by omega)
      have c4 : decide (9 < n) = true := decide_eq_true (by omega)
      have b0 : (0 : Int) ≤ (n : Int) := by omega
      have b1 : (n : Int) < 100000000000000 := by omega
      have e1 : ((n : Int) / 10) = ((n / 10 : Nat) : Int) := by omega
      have e2 : ((n : Int) % 10) = ((n % 10 : Nat) : Int) := by omega
      have E1 := Lib.hid e1
      have E2 := Lib.hid e2
      clear hS hL ih i1 hl h10 hf0 h14 hlt hn e1 e2
      go_enter Tryd.func20, Tryd.ntmps20
      go_wp2_with fail
      rw [E1.out]
      refine (IH.out w).mono ?_
      rintro e w1 ⟨rfl, hb1⟩
      have HB1 := Aside0.mk hb1
      clear hb1
      go_wp2_with fail
      rw [E2.out]
      refine (I1.out w1).mono ?_
      rintro e w2 ⟨rfl, hb2⟩
      have HB2 := Aside0.mk (HB1.out.trans (hb2.mono HB1.out.size))
      clear hb2
      go_wp2
      go_ret
      refine ⟨?_, HB2.out⟩
      rw [show S = _ from HSE]
      congr 1
theorem dig_calls (v : Int) (w : World) (h1 : -1099511627776 < v) (h2 : v < 1099511627776) : Calls Tryd.prog 20 #[.int .i64 v] w fun e w' => e = .returned (.string ⟨(digL v).toArray⟩) ∧ Below w.heap.size w w' := by
  unfold digL
  by_cases hv : v < 0
  · rw [if_pos hv]
    have hN : v.natAbs < 10 ^ 14 := by omega
    have ih := fun w => dig_nat 14 v.natAbs w (by omega) (by omega) hN
    have hl := decN_le 14 v.natAbs
    obtain ⟨S, hS⟩ : ∃ S : ByteArray, S = ⟨(decN 14 v.natAbs).toArray⟩ := ⟨_, rfl⟩
    have hsz : S.size ≤ 14 := by rw [hS, Lib.size_eq]; simpa using hl
    rw [← hS] at ih
    have e1 : -v = ((v.natAbs : Nat) : Int) := by omega
    have E1 := Lib.hid e1
    have HSE := Lib.hid hS
    have IH := Lib.hid ih
    have c1 : decide (v < -4398046511104) = false := decide_eq_false (by omega)
    have c2 : decide (v < 0) = true := decide_eq_true hv
    clear hS ih hl e1 hN
    go_enter Tryd.func20, Tryd.ntmps20
    go_wp2_with fail
    rw [E1.out]
    refine (IH.out w).mono ?_
    rintro e w1 ⟨rfl, hb1⟩
    go_wp2
    go_ret
    refine ⟨?_, hb1⟩
    rw [show S = _ from HSE]
    rfl
  · rw [if_neg hv]
    have hN : v.natAbs < 10 ^ 14 := by omega
    have := dig_nat 14 v.natAbs w (by omega) (by omega) hN
    rwa [show ((v.natAbs : Nat) : Int) = v from by omega] at this
def tokA (t : Tok) : Value := .agg #[.int .u8 t.kind, .int .i64 t.pos, .int .i64 t.n, .string ⟨t.s.toArray⟩]
theorem lawBool : Maps.Keyed Tryd.prog 4 := Maps.bool_keyed Tryd.underlying4
/-- an entry of a literal, from a bool to a string -/
theorem ins_own (w : World) {ops : Array Oper} {rest : List Oper} {o : Oper} {a : Act} {Q : Exit → Act → World → Prop} (hg : o.guard = none) (m : Operand) (kb : Bool) (sv : ByteArray) (hop : o.op = Op.insert 48 m (.const (.bool kb)) (.const (.string sv)))
    (b n : Nat) (D : DataW Unit) (hm : a.eval m = .map (some b)) (hown : w.ownsMap Tryd.prog 4 (plainElem Tryd.prog 9) b n D) (hn : n < maxLen) (hs : sv.size ≤ maxLen)
    (hK : ∀ w', w'.ownsMap Tryd.prog 4 (plainElem Tryd.prog 9) b (n + 1) (D.put (.bool kb) (.lit (.string sv.data.toList))) → w.grownBy w' (some b) → wpList Tryd.prog ops Q rest (a.put o.dst undef) w') :
    wpList Tryd.prog ops Q (o :: rest) a w := by
  refine wpList_plain hg fun K hk => ?_
  obtain ⟨w', hrun, h1, h2⟩ := hown.update lawBool Tryd.underlying48 hn (key := .bool kb) (val := .string sv) (kl := .bool kb) (Maps.keyOf_bool_mk Tryd.underlying4 kb) (plainElem_string Tryd.underlying9 hs)
  unfold Oper.wp
  have e1 : a.eval (.const (.bool kb)) = .bool kb := rfl
  have e2 : a.eval (.const (.string sv)) = .string sv := rfl
  simp [execOp, hop, hm, e1, e2, hrun, Result.andThen]
  exact hk _ _ (hK w' h1 h2)
theorem zeroStr (w : World) : (zeroValue 9).run Tryd.prog w = .ok (.string ⟨#[]⟩) w := by kernel_rfl
theorem look_str {w : World} {b n : Nat} {D : DataW Unit} (h : w.ownsMap Tryd.prog 4 (plainElem Tryd.prog 9) b n D) (q : Bool) (l : List UInt8) (hD : D.atKey (.bool q) (.lit (.string [])) = .lit (.string l)) :
    (Instr.lookup 48 (.map (some b)) (.bool q) false).run Tryd.prog w = .ok (.string ⟨l.toArray⟩) w := by
  obtain ⟨v, ps, hrun, hv⟩ := h.lookup lawBool Tryd.underlying48 (zeroStr w) (plainElem_string Tryd.underlying9 (s := ⟨#[]⟩) (by decide)) (key := .bool q) (kl := .bool q) (Maps.keyOf_bool_mk Tryd.underlying4 q)
  obtain ⟨s, rfl, he, _⟩ := plainElem_string_inv Tryd.underlying9 hv
  have he2 := congrArg Prod.fst he
  have h2 : (DataW.lit (.string l) : DataW Unit) = .lit (.string s.data.toList) := hD.symm.trans he2
  have h3 : l = s.data.toList := Lit.string.inj (DataW.lit.inj h2)
  rw [hrun, h3]
theorem chg_map {w w' : World} {b : Nat} (h : w.grownBy w' (some b)) : Heap.Chg [b] w w' :=
  ⟨h.os, h.tape, h.output, h.size, fun k hk hn => h.block k hk (fun e => hn (by simp at e; simp [e]))⟩
set_option maxHeartbeats 4000000 in
set_option maxRecDepth 100000 in
theorem text_bool (t : Tok) (w : World) (h5 : t.kind = 5) (b : Bool) (hb : (t.n == 1) = b) : Calls Tryd.prog 13 #[tokA t] w fun e w' => e = .returned (.string ⟨(if b then [35, 116] else [35, 102] : List UInt8).toArray⟩) ∧ Below w.heap.size w w' := by
  unfold tokA
  rw [h5]
  have hmm := @run_makeMap Tryd.prog
  have hmade := World.ownsMap_made (H := Unit) (w.alloc (.cells #[.int .u8 5, .int .i64 t.pos, .int .i64 t.n, .string ⟨t.s.toArray⟩] 30)) Tryd.prog 4 (plainElem Tryd.prog 9)
  have hsz : (w.alloc (.cells #[.int .u8 5, .int .i64 t.pos, .int .i64 t.n, .string ⟨t.s.toArray⟩] 30)).heap.size = w.heap.size + 1 := by show (w.heap.push _).size = _; simp
  rw [hsz] at hmade
  have HM := Lib.hid hmade
  clear hmade hsz
  go_enter Tryd.func13, Tryd.ntmps13
  cases b
  all_goals
    go_wp2_with (first | (refine ins_own _ rfl (.tmp 18) true ⟨#[35, 116]⟩ rfl (w.heap.size + 1) 0 _ rfl HM.out (by decide) (by decide) ?_; intro w1 hown1 hg1; have HO1 := Lib.hid hown1; have HG1 := Lib.hid hg1; clear hown1 hg1) | (refine ins_own _ rfl (.tmp 18) false ⟨#[35, 102]⟩ rfl (w.heap.size + 1) 1 _ rfl HO1.out (by decide) (by decide) ?_; intro w2 hown2 hg2; have HG2 := Lib.hid hg2; have hC := (chg_map HG1.out).same (chg_map hg2); have hbx : w2.cell? ⟨w.heap.size, 2, none⟩ = some (.int .i64 t.n) := hC.cell (by rw [Heap.blk_cell (t := 30) (cs := #[.int .u8 5, .int .i64 t.pos, .int .i64 t.n, .string ⟨t.s.toArray⟩]) (Heap.blk_old (by show _ < (w.heap.push _).size; simp) (Heap.blk_new rfl))]; rfl) (by simp); have HC := Lib.hid hC; clear hC; have hl1 := look_str hown2 true [35, 116] rfl; have hl2 := look_str hown2 false [35, 102] rfl; clear hown2 hg2))
    go_ret
    refine ⟨rfl, ?_⟩
    exact Heap.Chg.below ((((Heap.Chg.refl [] w).alloc _).alloc _).trans HC.out (fun b hb => .inr (by simp at hb; omega)))
theorem text_calls (t : Tok) (w : World) (h1 : 1 ≤ t.kind) (h2 : t.kind ≤ 6) (h4 : t.kind = 4 → -1099511627776 < t.n ∧ t.n < 1099511627776) : Calls Tryd.prog 13 #[tokA t] w fun e w' => e = .returned (.string ⟨(textL t).toArray⟩) ∧ Below w.heap.size w w' := by
  have hk : t.kind = 1 ∨ t.kind = 2 ∨ t.kind = 3 ∨ t.kind = 4 ∨ t.kind = 5 ∨ t.kind = 6 := by omega
  rcases hk with h | h | h | h | h | h
  · unfold tokA textL
    rw [h, if_pos rfl]
    go_enter Tryd.func13, Tryd.ntmps13
    go_wp2
    go_ret
    exact ⟨rfl, below_alloc (Below.refl _ _) _⟩
  · unfold tokA textL
    rw [h, if_neg (by decide), if_pos rfl]
    go_enter Tryd.func13, Tryd.ntmps13
    go_wp2
    go_ret
    exact ⟨rfl, below_alloc (Below.refl _ _) _⟩
  · unfold tokA textL
    rw [h, if_neg (by decide), if_neg (by decide), if_pos rfl]
    go_enter Tryd.func13, Tryd.ntmps13
    go_wp2
    go_ret
    exact ⟨rfl, below_alloc (Below.refl _ _) _⟩
  · obtain ⟨b1, b2⟩ := h4 h
    have DC := Lib.hid (fun w => dig_calls t.n w b1 b2)
    unfold tokA textL
    rw [h, if_neg (by decide), if_neg (by decide), if_neg (by decide), if_pos rfl]
    clear h4 b1 b2
    go_enter Tryd.func13, Tryd.ntmps13
    go_wp2_with fail
    refine (DC.out _).mono ?_
    rintro e w1 ⟨rfl, hb⟩
    go_wp2
    go_ret
    exact ⟨rfl, (below_alloc (Below.refl _ _) _).trans (hb.mono (by show _ ≤ (w.heap.push _).size; simp))⟩
  · have := text_bool t w h (t.n == 1) rfl
    unfold textL
    rw [h, if_neg (by decide), if_neg (by decide), if_neg (by decide), if_neg (by decide), if_pos rfl]
    simpa using this
  · unfold tokA textL
    rw [h, if_neg (by decide), if_neg (by decide), if_neg (by decide), if_neg (by decide), if_neg (by decide)]
    go_enter Tryd.func13, Tryd.ntmps13
    go_wp2
    go_ret
    exact ⟨rfl, below_alloc (Below.refl _ _) _⟩
end Go.Proofs.YtkgfnkilanpaoaaDoor.LexC

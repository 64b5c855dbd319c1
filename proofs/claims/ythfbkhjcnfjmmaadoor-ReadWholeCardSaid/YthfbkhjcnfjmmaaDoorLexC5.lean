/- The contract of lex.Lex; each states its conditions. -/
import Derived.Test.YthfbkhjcnfjmmaaDoorLexC4
import Derived.Test.YthfbkhjcnfjmmaaDoorLexP2
import Derived.Test.YthfbkhjcnfjmmaaDoorOwn
import Derived.Test.YthfbkhjcnfjmmaaDoorWWords
import Derived.Lib.Hide
namespace Go.Proofs.YthfbkhjcnfjmmaaDoor.LexC
open Go Go.RowKit Go.Proofs.YthfbkhjcnfjmmaaDoor.LexP Go.Proofs.YthfbkhjcnfjmmaaDoor.Own Go.Proofs.YthfbkhjcnfjmmaaDoorW.PrintWords
theorem below_tail {B : Nat} {w : World} {o : Obj} (h : B ≤ w.heap.size) : Below B w (w.alloc o) := (Below.refl _ w).alloc h _
def tokC (t : Tok) : List Value := [.int .u8 t.kind, .int .i64 t.pos, .int .i64 t.n, .string ⟨t.s.toArray⟩]
def intOf5 : Value → Int | .int _ q => q | _ => 0
theorem comb_comb (a b : List Tok) (x : Except (Nat × Int) (List Tok)) : comb (a ++ b) x = comb a (comb b x) := by cases x <;> simp [comb]
/-- Lex's answer as it is told -/
def LexPost (base : Nat) (x : Except (Nat × Int) (List Tok)) (e : Ending) (w' : World) : Prop := match x with
  | .error (i, er) => e = .returned (.tuple #[.slice none 0 0, .int .i64 i, .int .i64 er])
  | .ok ts => ∃ B c, e = .returned (.tuple #[.slice B ts.length c, .int .i64 0, .int .i64 0]) ∧ w'.ownsRow base 48 4 (.slice B ts.length c) ts.length (ts.flatMap tokC)
set_option maxHeartbeats 4000000 in
set_option maxRecDepth 100000 in
theorem lex_calls (s : ByteArray) (w : World) (hV : Vars w) :
    Calls Tryd.prog 18 #[.string s] w fun e w' => LexPost w.heap.size (lexF s.data.toList) e w' ∧ Below w.heap.size w w' := by
  have hz := Lib.hid (Lib.size_eq s)
  unfold lexF
  rw [← Lib.size_eq]
  by_cases hs : 4000 < s.size
  · have c1 : decide (4000 < (s.size : Int)) = true := decide_eq_true (by omega)
    have c1' : decide (4000 < s.size) = true := decide_eq_true hs
    rw [if_pos hs]
    clear hV
    go_enter Tryd.func18, Tryd.ntmps18
    go_wp2
    go_ret3
    exact ⟨rfl, Below.refl _ _⟩
  have c1 : decide (4000 < (s.size : Int)) = false := decide_eq_false (by omega)
  have c1' : decide (4000 < s.size) = false := decide_eq_false hs
  rw [if_neg hs]
  replace hV := Aside0.mk hV
  have PC := fun x w h => passed_calls x w h
  have PC0 := fun w => PC s w (by omega)
  generalize hl : s.data.toList = l at PC0 ⊢
  have hll := Lib.hid (show l.length = s.size by rw [← hl, Lib.size_eq])
  generalize hR : lexL 0 l = R
  obtain ⟨k0, hk0⟩ : ∃ k : Nat, l.length - (pass false l).length = k := ⟨_, rfl⟩
  rw [hk0] at PC0
  have h0 := Lib.hid (lexL_pass 0 l)
  have hd0 : Hid (pass false l = l.drop k0) := by rw [← hk0]; exact pass_suffix false l
  have hpl : Hid ((pass false l).length ≤ l.length) := pass_le false l
  have hl' := Lib.hid hl
  have hR' := Lib.hid hR
  have hk0' := Lib.hid hk0
  clear hl hR hk0 hz
  go_enter Tryd.func18, Tryd.ntmps18
  go_wp2_with (go_at_call 24; refine (PC0 _).mono ?_; rintro e w8 ⟨rfl, h8⟩)
  go_loopw [5, 6] (fun v i wr => ∃ (k : Nat) (acc : List Tok) (B : Option Addr) (c : Nat), v = .slice B acc.length c ∧ i = .int .i64 k ∧ k ≤ s.size ∧ Hid (pass false (l.drop k) = l.drop k) ∧ Hid (R = comb acc (lexL k (l.drop k))) ∧ acc.length ≤ k ∧ Aside0 (wr.ownsRow w.heap.size 48 4 (.slice B acc.length c) acc.length (acc.flatMap tokC)) ∧ Aside0 (Below w.heap.size w wr)) (fun _ i _ => s.size - (intOf5 i).toNat)
  case atStart =>
    refine ⟨k0, [], none, 0, rfl, rfl, ?_, ?_, ?_, by simp, ⟨World.ownsRow_nil _ _ _ _⟩, ⟨h8⟩⟩
    · have a1 : l.length = s.size := hll
      have a2 : l.length - (pass false l).length = k0 := hk0'
      omega
    · show pass false (l.drop k0) = l.drop k0
      rw [← show pass false l = l.drop k0 from hd0, pass_pass]
    · show R = comb [] (lexL k0 (l.drop k0))
      have a1 : lexL 0 l = R := hR'
      have a2 : lexL 0 l = lexL (0 + (l.length - (pass false l).length)) (pass false l) := h0
      have a3 : l.length - (pass false l).length = k0 := hk0'
      rw [← a1, a2, a3, Nat.zero_add, show pass false l = l.drop k0 from hd0]
      cases lexL k0 (l.drop k0) <;> simp [comb]
  case round =>
    obtain ⟨k, acc, B, cB, rfl, rfl, hk, hp, hr, hak, hO, hB⟩ := hrel
    have V1 := Aside0.mk (hV.out.below hB.out (Nat.le_refl _))
    by_cases hkl : k < s.size
    · have e0 : decide ((k : Int) < (s.size : Int)) = true := decide_eq_true (by omega)
      have e0' : decide (k < s.size) = true := decide_eq_true hkl
      have e1 : (0 : Int) ≤ (k : Int) := by omega
      have e2 : (k : Int) ≤ (s.size : Int) := by omega
      obtain ⟨c, r, hcr⟩ : ∃ c r, l.drop k = c :: r := by
        have a1 : l.length = s.size := hll
        cases hx : l.drop k with
        | nil => rw [List.drop_eq_nil_iff] at hx; omega
        | cons c r => exact ⟨c, r, rfl⟩
      have hxs : (s.extract k s.size).data.toList = c :: r := by
        rw [ext_list, show s.data.toList = l from hl', List.take_of_length_le (by rw [List.length_drop, show l.length = s.size from hll]; exact Nat.le_refl _), hcr]
      have hxz : (s.extract k s.size).size < 4294967296 := by
        rw [Lib.size_eq, hxs, ← hcr, List.length_drop, show l.length = s.size from hll]; omega
      have FC := fun w hV => first_calls (s.extract k s.size) c r w hxs hxz hV
      have hT := Lib.hid (lexL_tok k c r (by rw [← hcr]; exact hp))
      have hcr' := Lib.hid hcr
      clear hxs hxz hcr
      cases hf : firstP (c :: r) with
      | error er =>
        rw [hf] at FC hT
        have hRv : R = .error (k, er) := by
          rw [show R = comb acc (lexL k (l.drop k)) from hr, show l.drop k = c :: r from hcr', show lexL k (c :: r) = _ from hT]; rfl
        have hRv' := Lib.hid hRv
        clear hRv
        unfold firstV at FC
        simp only at FC
        have e3 : (er != 0) = true := by have := firstP_err hf; simpa using this
        go_wp2_with (go_at_call 25; refine (FC wr V1.out).mono ?_; rintro e w9 ⟨rfl, h9⟩)
        go_ret3
        rw [show R = _ from hRv']
        exact ⟨rfl, hB.out.trans ((h9.mono hB.out.size).trans (below_tail (Nat.le_trans hB.out.size h9.size)))⟩
      | ok x =>
        obtain ⟨⟨tk, tn, ts⟩, n⟩ := x
        rw [hf] at FC hT
        simp only [firstV] at FC
        have hn := firstP_pos hf
        have hrl : r.length + 1 = s.size - k := by
          have a1 : (l.drop k).length = l.length - k := List.length_drop
          rw [show l.drop k = c :: r from hcr', show l.length = s.size from hll] at a1
          simpa using a1
        have hyl : (s.extract (k + n) s.size).data.toList = l.drop (k + n) := by
          rw [ext_list, show s.data.toList = l from hl', List.take_of_length_le (by rw [List.length_drop, show l.length = s.size from hll]; exact Nat.le_refl _)]
        have hyz : (s.extract (k + n) s.size).size < 4294967296 := by
          rw [Lib.size_eq, hyl, List.length_drop, show l.length = s.size from hll]; omega
        have PC1 := fun w => PC (s.extract (k + n) s.size) w hyz
        rw [hyl] at PC1
        obtain ⟨k2, hk2⟩ : ∃ k2 : Nat, (l.drop (k + n)).length - (pass false (l.drop (k + n))).length = k2 := ⟨_, rfl⟩
        rw [hk2] at PC1
        have hk2' := Lib.hid hk2
        have b1 : (k : Int) + (n : Int) ≤ (s.size : Int) := by omega
        have b2 : (0 : Int) ≤ (k : Int) + (n : Int) := by omega
        have hkn : k + n ≤ s.size := by omega
        have hn1 : 1 ≤ n := hn.1
        have hk2l : k + n + k2 ≤ s.size := by
          have a1 : (l.drop (k + n)).length = l.length - (k + n) := List.length_drop
          have a2 : l.length = s.size := hll
          omega
        have hac : acc.length < 4000 := by omega
        clear hyl hyz hk2 hrl hn hf
        go_wp2_with (first | (go_at_call 25; refine (FC wr V1.out).mono ?_; rintro e w9 ⟨rfl, h9⟩; replace hO := Aside0.mk (own_keep hO.out (Heap.Chg.of_below (F := []) h9) (by simp)); replace hB := Aside0.mk (hB.out.trans (h9.mono hB.out.size))) | (at_builtin; refine app rfl (.tmp 39) (.tmp 41) 41 rfl w.heap.size 48 _ 4 40 Tryd.underlying41 infoTok rfl (by decide) (by decide) _ acc.length _ rfl (own_keep hO.out (((Heap.Chg.refl [] w9).alloc _).alloc _) (by simp)) _ 1 _ rfl (src_new [.int .u8 tk, .int .i64 (k : Int), .int .i64 tn, .string ⟨ts.toArray⟩] 48 4 1 1 _ rfl (by simp)) (by intro u hu; simp at hu; rcases hu with rfl | rfl | rfl | rfl <;> rfl) (by have := hB.out.size; simp; omega) (by omega) ?_; intro B2 c2 w3 ho3 hc3 _; replace hB := Aside0.mk (Heap.Chg.below ((((Heap.Chg.of_below (F := []) hB.out).alloc _).alloc _).trans hc3 (fun b hb => .inr (hO.out.lt b (mem_ob.1 hb)).1))); clear hO hc3; have hO := Aside0.mk ho3; clear ho3) | (go_at_call 24; refine (PC1 _).mono ?_; rintro e w8 ⟨rfl, h8⟩; replace hO := Aside0.mk (own_keep hO.out (Heap.Chg.of_below (F := []) h8) (by simp)); replace hB := Aside0.mk (hB.out.trans (h8.mono hB.out.size))))
        go_roundw
        case rel =>
          have hq : pass false (l.drop (k + n)) = l.drop (k + n + k2) := by
            have a1 := pass_suffix false (l.drop (k + n))
            rw [show (l.drop (k + n)).length - (pass false (l.drop (k + n))).length = k2 from hk2', List.drop_drop] at a1
            exact a1
          refine ⟨k + n + k2, acc ++ [⟨tk, (k : Int), tn, ts⟩], B2, c2, by simp, by simp, hk2l, ?_, ?_, by simp; omega, ?_, hB⟩
          · show pass false (l.drop (k + n + k2)) = l.drop (k + n + k2)
            rw [← hq, pass_pass]
          · show R = _
            have a2 : (c :: r).drop n = l.drop (k + n) := by rw [← show l.drop k = c :: r from hcr', List.drop_drop]
            have a3 : lexL k (c :: r) = (match lexL (k + n) (List.drop n (c :: r)) with
              | .error e => .error e
              | .ok ts_1 => .ok (⟨tk, (k : Int), tn, ts⟩ :: ts_1)) := hT
            rw [comb_comb, ← hq, show R = comb acc (lexL k (l.drop k)) from hr, show l.drop k = c :: r from hcr', a3, a2, lexL_pass (k + n) (l.drop (k + n)), show (l.drop (k + n)).length - (pass false (l.drop (k + n))).length = k2 from hk2']
            cases lexL (k + n + k2) (pass false (l.drop (k + n))) <;> rfl
          · have a4 : (acc ++ [(⟨tk, (k : Int), tn, ts⟩ : Tok)]).length = acc.length + 1 := by simp
            rw [a4, List.flatMap_append]
            exact hO
        case measure =>
          simp [intOf5]; omega
    · have e0 : decide ((k : Int) < (s.size : Int)) = false := decide_eq_false (by omega)
      have e0' : decide (k < s.size) = false := decide_eq_false hkl
      have hRv : R = .ok acc := by
        rw [show R = comb acc (lexL k (l.drop k)) from hr, List.drop_eq_nil_iff.2 (by rw [show l.length = s.size from hll]; omega), lexL_nil]; simp [comb]
      go_wp2
      go_ret3
      rw [hRv]
      exact ⟨⟨B, cB, rfl, hO.out⟩, hB.out⟩
end Go.Proofs.YthfbkhjcnfjmmaaDoor.LexC

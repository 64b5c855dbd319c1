/- The plain law of LexCuts; its condition is the number's kind. -/
import Derived.Test.YtkgfnkilanpaoaaDoorLexQ7
import Derived.Test.YtkgfnkilanpaoaaDoorPLexsx7
import Derived.Test.YtkgfnkilanpaoaaDoorLexP3
namespace Go.Proofs.YtkgfnkilanpaoaaDoor.Pure
open Go Go.RowKit Go.Proofs.YtkgfnkilanpaoaaDoor.PLexs Go.Proofs.YtkgfnkilanpaoaaDoor.LexP Go.Proofs.YtkgfnkilanpaoaaDoorW.PrintWords Go.Proofs.YtkgfnkilanpaoaaDoorW.PrintLast
theorem out_len {l : List UInt8} {ts : List Tok} {i : Nat} (h : lexL i l = .ok ts) : ts.length ≤ l.length + 1 := lexN_len _ _ _ _ h
theorem cuts_j1 (s : ByteArray) (hs : s.size ≤ 500) (x k : Nat) (hx : x ≤ s.size) (hE : WEnds (s.data.toList.drop x)) (hk : s.size + 10 < k) : eddywheellaw05_LexCuts.j1 k s true x = some true := by
  obtain ⟨k, rfl⟩ : ∃ j, k = j + 1 + 1 := ⟨k - 2, by omega⟩
  have hz := Lib.size_eq s
  rw [eddywheellaw05_LexCuts.j1, if_pos (by omega), if_pos (by omega), lex_out, lex_out, Option.bind_some, Option.bind_some]
  have ht : (s.extract 0 (x : Int).toNat).data.toList = s.data.toList.take x := by
    rw [Go.Proofs.YtkgfnkilanpaoaaDoor.LexC.ext_list]; simp
  obtain ⟨m, hm⟩ := lex_app (s.data.toList.drop x) hE (s.data.toList.take x).length 0 (s.data.toList.take x) (Nat.le_refl _)
  rw [List.take_append_drop] at hm
  rw [ht, lexF_eq (by rw [List.length_take]; omega), lexF_eq (by omega), hm]
  have hlen : (s.data.toList.take x).length = x := by rw [List.length_take]; omega
  cases ha : lexL 0 (s.data.toList.take x) with
  | error e =>
    obtain ⟨j, e⟩ := e
    have he := lexL_err _ _ _ _ _ (Nat.le_refl _) ha
    show (if e = 0 then eddywheellaw05_LexCuts.j2 (k + 1) true x [] e [] e (e != 0) else eddywheellaw05_LexCuts.j2 (k + 1) true x [] e [] e true) = some true
    rw [if_neg he]
    rw [eddywheellaw05_LexCuts.j2, if_pos rfl, if_pos rfl, if_neg he]
    simpa using he
  | ok ts =>
    have hl := out_len ha
    rw [hlen] at hl
    cases hb : fromM m (0 + (s.data.toList.take x).length) (s.data.toList.drop x) with
    | error e =>
      obtain ⟨j, e⟩ := e
      have he := fromM_err hb
      simp only [outB, comb]
      rw [if_pos trivial]
      rw [eddywheellaw05_LexCuts.j2, if_pos (by simpa using he), if_pos rfl, if_pos rfl]
    | ok ts2 =>
      have hp := fromM_pos hb
      simp only [outB, comb, List.nil_append]
      rw [if_pos trivial]
      rw [eddywheellaw05_LexCuts.j2, if_neg (by simp), if_neg (by simp; omega), if_pos rfl, if_pos (by omega), if_pos (by simp; omega)]
      have htk : ((ts ++ ts2).map toS).take (((ts.map toS).length : Nat) : Int).toNat = ts.map toS := by
        rw [Int.toNat_natCast, List.map_append, List.take_left]
      rw [htk, same_ok _ _ (by simp; omega) (by simp; omega), Option.bind_some, if_pos rfl]
      cases ts2 with
      | nil => rw [if_pos (by simp)]
      | cons t ts2 =>
        rw [if_neg (by simp; omega), if_pos (by simp; omega)]
        have hr : rd_T30 ((ts ++ t :: ts2).map toS) (((ts.map toS).length : Nat) : Int) = toS t := by
          unfold rd_T30
          rw [Int.toNat_natCast, List.map_append, List.map_cons, List.getD_eq_getElem?_getD, List.getElem?_append_right (Nat.le_refl _), Nat.sub_self]
          rfl
        rw [hr]
        have := hp t (by simp)
        rw [hlen] at this
        simp only [toS]
        congr 1
        exact decide_eq_true (by omega)
theorem cuts_l0 (s : ByteArray) (hs : s.size ≤ 500) : ∀ (d p k : Nat), d + p = s.size → d + s.size + 12 < k → eddywheellaw05_LexCuts.l0 k s true p = some true
  | _, _, 0, _, h => by omega
  | 0, p, k + 1, hd, hk => by
    unfold eddywheellaw05_LexCuts.l0
    rw [if_neg (by omega)]
    exact cuts_j1 s hs p k (by omega) (.inl (List.drop_eq_nil_iff.2 (by rw [← Lib.size_eq]; omega))) (by omega)
  | d + 1, p, k + 1, hd, hk => by
    unfold eddywheellaw05_LexCuts.l0
    cases hx : s.data.toList.drop p with
    | nil =>
      have : s.size ≤ p := by rw [List.drop_eq_nil_iff, ← Lib.size_eq] at hx; exact hx
      omega
    | cons c r =>
      obtain ⟨hi, hb, hr, hrl⟩ := at_drop hx
      rw [if_pos (by omega), if_pos (by omega), hb]
      by_cases h1 : c = 32
      · rw [if_pos (by rw [h1]; rfl)]
        exact cuts_j1 s hs p k (by omega) (.inr ⟨c, r, hx, by rw [h1]; rfl⟩) (by omega)
      · have n1 : c.toNat ≠ 32 := fun h => h1 (UInt8.toNat_inj.1 h)
        rw [if_neg (by omega)]
        by_cases h2 : c = 10
        · rw [if_pos (by rw [h2]; rfl)]
          exact cuts_j1 s hs p k (by omega) (.inr ⟨c, r, hx, by rw [h2]; rfl⟩) (by omega)
        · have n2 : c.toNat ≠ 10 := fun h => h2 (UInt8.toNat_inj.1 h)
          rw [if_neg (by omega), show (wrap64 ((p : Int) + 1)) = ((p + 1 : Nat) : Int) from i1 p 1 (by omega)]
          exact cuts_l0 s hs d (p + 1) k (by omega) (by omega)
theorem LexCuts (s : ByteArray) (a : Int) (h : (Lit.int .u16 a).wf = true) : ∃ k, eddywheellaw05_LexCuts.f k s a = some true := by
  refine ⟨2 * s.size + 40, ?_⟩
  unfold eddywheellaw05_LexCuts.f
  rw [shown_ok _ (by omega), Option.bind_some]
  by_cases h5 : 500 < s.size
  · rw [if_pos (by omega)]
  have e16 : IntKind.u16.min = 0 ∧ IntKind.u16.max = 65535 := by decide
  simp only [Lit.wf, e16.1, e16.2, Bool.and_eq_true, decide_eq_true_eq] at h
  have e1 : wrap64 ((s.size : Int) + 1) = ((s.size + 1 : Nat) : Int) := i1 s.size 1 (by omega)
  rw [if_neg (by omega), e1, if_neg (by omega), w64 a (by omega) (by omega)]
  have hm : Int.tmod a ((s.size + 1 : Nat) : Int) = ((a.toNat % (s.size + 1) : Nat) : Int) := by
    rw [Int.tmod_eq_emod_of_nonneg h.1, Int.natCast_emod, Int.toNat_of_nonneg h.1]
  have hlt := Nat.mod_lt a.toNat (show 0 < s.size + 1 by omega)
  rw [hm]
  exact cuts_l0 s (by omega) (s.size - a.toNat % (s.size + 1)) _ _ (by omega) (by omega)
end Go.Proofs.YtkgfnkilanpaoaaDoor.Pure

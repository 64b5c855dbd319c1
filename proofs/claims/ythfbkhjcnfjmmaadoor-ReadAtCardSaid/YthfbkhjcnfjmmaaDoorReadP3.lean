/- Where data stand in a text, in plain lists; each states its conditions. -/
import Derived.Test.YthfbkhjcnfjmmaaDoorReadP2
namespace Go.Proofs.YthfbkhjcnfjmmaaDoor.ReadP
open Go.Proofs.YthfbkhjcnfjmmaaDoor.LexP
/-- a number's token begins with a sign or a digit -/
theorem num_first (full : List UInt8) : ∀ (n i : Nat) (ts : List Tok), full.length - i ≤ n → i ≤ full.length → lexL i (full.drop i) = .ok ts → ∀ t ∈ ts, t.kind = 4 → ∃ c, full[t.pos.toNat]? = some c ∧ (c = 45 ∨ isDigit c = true)
  | n, i, ts, hn, hi, h, t, ht, h4 => by
    rw [lexL_pass] at h
    have hl := pass_le false (full.drop i)
    have hs := pass_suffix false (full.drop i)
    rw [List.drop_drop] at hs
    rw [List.length_drop] at h hl hs
    generalize hj : i + (full.length - i - (pass false (full.drop i)).length) = j at h hs
    cases hp : pass false (full.drop i) with
    | nil => rw [hp, lexL_nil] at h; injection h with h; subst h; cases ht
    | cons c r =>
      have hh := pass_head false _ c r hp
      rw [hp] at h hl hs hj
      simp only [List.length_cons] at hl hj
      rw [lexL_tok _ c r (pass_fix c r hh.1 hh.2)] at h
      cases hf : firstP (c :: r) with
      | error e => rw [hf] at h; cases h
      | ok x =>
        obtain ⟨t0, k⟩ := x
        have hk := firstP_pos hf
        rw [hf] at h
        simp only at h
        have hs0 := hs
        rw [hs, List.drop_drop] at h
        match n, hn with
        | 0, hn => omega
        | n + 1, hn =>
          cases hr : lexL (j + k) (full.drop (j + k)) with
          | error e => rw [hr] at h; cases h
          | ok ts' =>
            rw [hr] at h
            injection h with h
            subst h
            rcases List.mem_cons.1 ht with rfl | ht
            · refine ⟨c, ?_, ?_⟩
              · have : (full.drop j)[0]? = some c := by rw [← hs0]; rfl
                rw [List.getElem?_drop] at this
                simpa using this
              · simp only at h4
                rw [firstP_eq] at hf
                split at hf
                · injection hf with hf; injection hf with hf _; rw [← hf] at h4; simp at h4
                split at hf
                · injection hf with hf; injection hf with hf _; rw [← hf] at h4; simp at h4
                split at hf
                · injection hf with hf; injection hf with hf _; rw [← hf] at h4; simp at h4
                split at hf
                · split at hf
                  · injection hf with hf; injection hf with hf _; rw [← hf] at h4; simp at h4
                  · split at hf
                    · injection hf with hf; injection hf with hf _; rw [← hf] at h4; simp at h4
                    · cases hf
                split at hf
                · cases hf
                · rename_i hw
                  split at hf
                  · cases hf
                  · rename_i t2 htk
                    injection hf with hf; injection hf with hf _; subst hf
                    have hl : isLetter c = true := by
                      unfold word at hw
                      rw [List.takeWhile_cons] at hw
                      split at hw
                      · assumption
                      · exact absurd rfl hw
                    have hwe : word (c :: r) = c :: word r := by unfold word; rw [List.takeWhile_cons, if_pos hl]
                    rw [hwe] at htk
                    unfold tokP at htk
                    split at htk
                    · rename_i hn4
                      rw [numP_cons2] at hn4
                      by_cases hc : c == 45
                      · exact .inl (by simpa using hc)
                      · rw [if_neg hc, List.all_cons, Bool.and_eq_true] at hn4
                        exact .inr hn4.1
                    · split at htk
                      · cases htk
                      · injection htk with htk
                        rw [← htk] at h4
                        simp at h4
            · exact num_first full n (j + k) ts' (by omega) (by omega) hr t ht h4
def AtB (l : List UInt8) (p : Int) (P : UInt8 → Prop) : Prop := 0 ≤ p ∧ p < l.length ∧ ∃ c, l[p.toNat]? = some c ∧ P c
/-- a token stands where it says -/
def TokOk (l : List UInt8) (t : Tok) : Prop := AtB l t.pos fun c => (t.kind = 1 → c = 40) ∧ (t.kind = 3 → c = 39) ∧ (t.kind = 4 → c = 45 ∨ isDigit c = true) ∧ (t.kind = 5 → c = 35) ∧ (t.kind = 6 → t.pos + t.s.length ≤ l.length ∧ (l.drop t.pos.toNat).take t.s.length = t.s)
def NdOk (l : List UInt8) (x : Nd) : Prop := (1 ≤ x.kind ∧ x.kind ≤ 4) ∧ AtB l x.pos fun c => (x.kind = 1 → c = 45 ∨ isDigit c = true) ∧ (x.kind = 2 → c = 35) ∧ (x.kind = 3 → (c = 39 ∧ x.s = quoteL) ∨ (x.pos + x.s.length ≤ l.length ∧ (l.drop x.pos.toNat).take x.s.length = x.s)) ∧ (x.kind = 4 → c = 40 ∨ c = 39)
def PtOk (l : List UInt8) (o : Pt) : Prop := AtB l o.at_ fun c => c = 40 ∨ c = 39
theorem put_ok (l : List UInt8) : ∀ (row : List Nd) (tops : List Int) (os : List Pt) (x : Nd), (∀ y ∈ row, NdOk l y) → (∀ o ∈ os, PtOk l o) → NdOk l x → (∀ y ∈ (putS row tops os x).1, NdOk l y) ∧ ∀ o ∈ (putS row tops os x).2.2, PtOk l o
  | row, tops, [], x, h1, _, h3 => by
    refine ⟨fun y hy => ?_, fun o ho => by cases ho⟩
    rcases List.mem_append.1 hy with hy | hy
    · exact h1 y hy
    · have : y = x := by simpa using hy
      subst this; exact h3
  | row, tops, o :: os, x, h1, h2, h3 => by
    have h1' : ∀ y ∈ row ++ [x], NdOk l y := fun y hy => by
      rcases List.mem_append.1 hy with hy | hy
      · exact h1 y hy
      · have : y = x := by simpa using hy
        subst this; exact h3
    have ho := h2 o (List.mem_cons_self ..)
    unfold putS
    split
    · refine put_ok l (row ++ [x]) tops os _ h1' (fun o' h => h2 o' (List.mem_cons_of_mem _ h)) ⟨by simp, ?_⟩
      obtain ⟨a, b, c, hc, hp⟩ := ho
      exact ⟨a, b, c, hc, fun h => absurd h (by simp), fun h => absurd h (by simp), fun h => absurd h (by simp), fun _ => hp⟩
    · refine ⟨h1', fun o' h => ?_⟩
      rcases List.mem_cons.1 h with rfl | h
      · exact ho
      · exact h2 o' (List.mem_cons_of_mem _ h)
theorem tok_ok {l : List UInt8} {st st' : List Nd × List Int × List Pt} {t : Tok} (h1 : ∀ y ∈ st.1, NdOk l y) (h2 : ∀ o ∈ st.2.2, PtOk l o) (ht : TokOk l t) (hk : 1 ≤ t.kind ∧ t.kind ≤ 6) (h : tokS st t = .ok st') : (∀ y ∈ st'.1, NdOk l y) ∧ ∀ o ∈ st'.2.2, PtOk l o := by
  obtain ⟨row, tops, os⟩ := st
  simp only at h1 h2
  obtain ⟨a, b, c, hc, k1, k3, k4, k5, k6⟩ := ht
  unfold tokS at h
  simp only at h
  split at h
  · rename_i hh
    injection h with h; rw [← h]
    exact put_ok l row tops os _ h1 h2 ⟨by simp, a, b, c, hc, fun _ => k4 hh, fun h => absurd h (by simp), fun h => absurd h (by simp), fun h => absurd h (by simp)⟩
  split at h
  · rename_i hh
    injection h with h; rw [← h]
    exact put_ok l row tops os _ h1 h2 ⟨by simp, a, b, c, hc, fun h => absurd h (by simp), fun _ => k5 hh, fun h => absurd h (by simp), fun h => absurd h (by simp)⟩
  split at h
  · rename_i hh
    injection h with h; rw [← h]
    exact put_ok l row tops os _ h1 h2 ⟨by simp, a, b, c, hc, fun h => absurd h (by simp), fun h => absurd h (by simp), fun _ => .inr (k6 hh), fun h => absurd h (by simp)⟩
  split at h
  · cases os with
    | nil => cases h
    | cons o os =>
      simp only at h
      split at h
      · cases h
      · injection h with h; rw [← h]
        obtain ⟨a', b', c', hc', hp⟩ := h2 o (List.mem_cons_self ..)
        exact put_ok l row tops os _ h1 (fun o' ho => h2 o' (List.mem_cons_of_mem _ ho)) ⟨by simp, a', b', c', hc', fun h => absurd h (by simp), fun h => absurd h (by simp), fun h => absurd h (by simp), fun _ => hp⟩
  split at h
  · cases h
  split at h
  · rename_i hh
    injection h with h; rw [← h]
    refine put_ok l row tops _ _ h1 (fun o' ho => ?_) ⟨by simp, a, b, c, hc, fun h => absurd h (by simp), fun h => absurd h (by simp), fun _ => .inl ⟨k3 hh, rfl⟩, fun h => absurd h (by simp)⟩
    rcases List.mem_cons.1 ho with rfl | ho
    · exact ⟨a, b, c, hc, .inr (k3 hh)⟩
    · exact h2 o' ho
  · injection h with h; rw [← h]
    refine ⟨h1, fun o' ho => ?_⟩
    rcases List.mem_cons.1 ho with rfl | ho
    · exact ⟨a, b, c, hc, .inl (k1 (by omega))⟩
    · exact h2 o' ho
theorem toks_ok {l : List UInt8} : ∀ (ts : List Tok) (st st' : List Nd × List Int × List Pt), (∀ y ∈ st.1, NdOk l y) → (∀ o ∈ st.2.2, PtOk l o) → (∀ t ∈ ts, TokOk l t ∧ 1 ≤ t.kind ∧ t.kind ≤ 6) → toksS st ts = .ok st' → ∀ y ∈ st'.1, NdOk l y
  | [], st, st', h1, _, _, h => by injection h with h; rw [← h]; exact h1
  | t :: ts, st, st', h1, h2, h3, h => by
    unfold toksS at h
    cases hx : tokS st t with
    | error e => rw [hx] at h; cases h
    | ok st2 =>
      rw [hx] at h
      obtain ⟨ht, hk⟩ := h3 t (List.mem_cons_self ..)
      obtain ⟨g1, g2⟩ := tok_ok h1 h2 ht hk hx
      exact toks_ok ts st2 st' g1 g2 (fun t' ht' => h3 t' (List.mem_cons_of_mem _ ht')) h
theorem stand_tok (full : List UInt8) : ∀ (ts : List Tok) (last : Int), -1 ≤ last → Stand full last ts → (∀ t ∈ ts, t.kind = 4 → ∃ c, full[t.pos.toNat]? = some c ∧ (c = 45 ∨ isDigit c = true)) → ∀ t ∈ ts, TokOk full t ∧ 1 ≤ t.kind ∧ t.kind ≤ 6
  | [], _, _, _, _, t, ht => by cases ht
  | t0 :: ts, last, hl, h, hn, t, ht => by
    obtain ⟨h1, h2, h3, h4, h5, h6⟩ := h
    rcases List.mem_cons.1 ht with rfl | ht
    · refine ⟨⟨by omega, h2, ?_⟩, h4.2⟩
      have hlt : t.pos.toNat < full.length := by omega
      refine ⟨full[t.pos.toNat], List.getElem?_eq_getElem hlt, ?_⟩
      have head : ∀ (c : UInt8) (r : List UInt8), textL t = c :: r → t.kind ≠ 4 → full[t.pos.toNat] = c := fun c r he hk => by
        obtain ⟨_, g2⟩ := h5 hk
        rw [he] at g2
        have g3 := congrArg (fun x => x[0]?) g2
        simp only [List.length_cons, List.getElem?_cons_zero] at g3
        rw [List.getElem?_take_of_lt (by omega), List.getElem?_drop, Nat.add_zero, List.getElem?_eq_getElem hlt] at g3
        exact Option.some.inj g3
      refine ⟨fun hk => head 40 [] (by unfold textL; rw [if_pos hk]) (by omega), fun hk => head 39 [] (by unfold textL; rw [if_neg (by omega), if_neg (by omega), if_pos hk]) (by omega), fun hk => ?_, fun hk => ?_, fun hk => ?_⟩
      · obtain ⟨c, hc, hp⟩ := hn t (List.mem_cons_self ..) hk
        rw [List.getElem?_eq_getElem hlt] at hc
        injection hc with hc
        rw [hc]; exact hp
      · by_cases hb : t.n = 1
        · exact head 35 [116] (by unfold textL; rw [if_neg (by omega), if_neg (by omega), if_neg (by omega), if_neg (by omega), if_pos hk, if_pos hb]) (by omega)
        · exact head 35 [102] (by unfold textL; rw [if_neg (by omega), if_neg (by omega), if_neg (by omega), if_neg (by omega), if_pos hk, if_neg hb]) (by omega)
      · have ht6 : textL t = t.s := by unfold textL; rw [if_neg (by omega), if_neg (by omega), if_neg (by omega), if_neg (by omega), if_neg (by omega)]
        have := h5 (by omega)
        rwa [ht6] at this
    · exact stand_tok full ts t0.pos (by omega) h6 (fun t ht => hn t (List.mem_cons_of_mem _ ht)) t ht
theorem lexF_ok {l : List UInt8} {ts : List Tok} (h : lexF l = .ok ts) : ∀ t ∈ ts, TokOk l t ∧ 1 ≤ t.kind ∧ t.kind ≤ 6 := by
  unfold lexF at h
  split at h
  · cases h
  · have h' : lexL 0 (l.drop 0) = .ok ts := by rw [List.drop_zero]; exact h
    have hs := stand_ok l l.length 0 ts (-1) (by omega) (by omega) (by omega) h'
    exact stand_tok l ts (-1) (by omega) hs (num_first l l.length 0 ts (by omega) (by omega) h')
/-- where data stand -/
theorem read_ok {l : List UInt8} {row : List Nd} {tops : List Int} (h : readF l = .ok (row, tops)) : (∀ x ∈ row, NdOk l x) ∧ row.length ≤ 2 * 4001 := by
  unfold readF at h
  cases hL : lexF l with
  | error x => rw [hL] at h; cases h
  | ok ts =>
    rw [hL] at h
    simp only at h
    unfold readT at h
    cases hT : toksS ([], [], []) ts with
    | error e => rw [hT] at h; cases h
    | ok st =>
      rw [hT] at h
      simp only at h
      unfold endS at h
      split at h
      · injection h with h
        injection h with h1 h2
        refine ⟨by rw [← h1]; exact toks_ok ts _ st (fun _ h => by cases h) (fun _ h => by cases h) (lexF_ok hL) hT, ?_⟩
        have key : ∀ (ts : List Tok) (k : Nat) (st st' : List Nd × List Int × List Pt), Inv k st → toksS st ts = .ok st' → Inv (k + ts.length) st' := by
          intro ts
          induction ts with
          | nil => intro k st st' hi hh; injection hh with hh; rw [← hh]; exact hi
          | cons t ts ih =>
            intro k st st' hi hh
            unfold toksS at hh
            cases hx : tokS st t with
            | error e => rw [hx] at hh; cases hh
            | ok st2 =>
              rw [hx] at hh
              have := ih (k + 1) st2 st' (tok_small hi hx) hh
              rw [List.length_cons, show k + (ts.length + 1) = k + 1 + ts.length from by omega]
              exact this
        have hi := key ts 0 ([], [], []) st ⟨Nat.le_refl _, Nat.le_refl _, Nat.zero_le _, fun _ h => by cases h⟩ hT
        have := hi.1
        have hl := (lexF_kinds hL).2
        rw [← h1]
        omega
      · cases h
theorem toksS_err : ∀ (ts : List Tok) (st : List Nd × List Int × List Pt) (i er : Int), toksS st ts = .error (i, er) → er ≠ 0
  | [], _, _, _, h => by cases h
  | t :: ts, st, i, er, h => by
    unfold toksS at h
    cases hx : tokS st t with
    | error e =>
      rw [hx] at h
      injection h with h
      injection h with _ h
      subst h
      unfold tokS at hx
      split at hx
      · cases hx
      split at hx
      · cases hx
      split at hx
      · cases hx
      split at hx
      · split at hx
        · injection hx with hx; omega
        · split at hx
          · injection hx with hx; omega
          · cases hx
      split at hx
      · injection hx with hx; omega
      split at hx
      · cases hx
      · cases hx
    | ok st2 =>
      rw [hx] at h
      exact toksS_err ts st2 i er h
theorem readF_err {l : List UInt8} {i er : Int} (h : readF l = .error (i, er)) : er ≠ 0 := by
  unfold readF at h
  cases hL : lexF l with
  | error x =>
    obtain ⟨j, e⟩ := x
    rw [hL] at h
    injection h with h
    injection h with _ h
    subst h
    unfold lexF at hL
    split at hL
    · injection hL with hL; injection hL with _ hL; omega
    · exact lexL_err _ _ _ _ _ (Nat.le_refl _) hL
  | ok ts =>
    rw [hL] at h
    simp only at h
    unfold readT at h
    cases hT : toksS ([], [], []) ts with
    | error x =>
      rw [hT] at h
      injection h with h
      subst h
      exact toksS_err ts _ _ _ hT
    | ok st =>
      rw [hT] at h
      simp only at h
      unfold endS at h
      split at h
      · cases h
      · injection h with h
        injection h with _ h
        split at h <;> omega
end Go.Proofs.YthfbkhjcnfjmmaaDoor.ReadP

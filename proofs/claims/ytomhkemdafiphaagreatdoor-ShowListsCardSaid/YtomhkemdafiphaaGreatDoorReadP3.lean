/- Where data stand in a text, in plain lists; each states its conditions. -/
import Derived.Test.YtomhkemdafiphaaGreatDoorShowP
namespace Go.Proofs.YtomhkemdafiphaaGreatDoor.ReadP
open Go.Proofs.YtomhkemdafiphaaGreatDoor.LexP
/-- a number's token begins with a sign or a digit -/
theorem num_first (full : List UInt8) : ∀ (n i : Nat) (ts : List Tok), full.length - i ≤ n → i ≤ full.length → lexL i (full.drop i) = .ok ts → ∀ t ∈ ts, t.kind = 4 → ∃ c, full[t.pos.toNat]? = some c ∧ (c = 45 ∨ isDigit c = true)
  | n, i, ts, hn, hi, h, t, ht, h4 => by
    rw [lexL_pass] at h
    have hl := pass_le false (full.drop i)
    have hs := pass_suffix false (full.drop i)
    rw [List.drop_drop] at hs
    rw [List.length_drop] at h hl hs
    generalize hj : i + (full.length - i - (pass false (full.drop i)).length) = j at h hs
    cases hp : pass false (full.drop i) with
    | nil => rw [hp, lexL_nil] at h; injection h with h; subst h; cases ht
    | cons c r =>
      have hh := pass_head false _ c r hp
      rw [hp] at h hl hs hj
      simp only [List.length_cons] at hl hj
      rw [lexL_tok _ c r (pass_fix c r hh.1 hh.2)] at h
      cases hf : firstP (c :: r) with
      | error e => rw [hf] at h; cases h
      | ok x =>
        obtain ⟨t0, k⟩ := x
        have hk := firstP_pos hf
        rw [hf] at h
        simp only at h
        have hs0 := hs
        rw [hs, List.drop_drop] at h
        match n, hn with
        | 0, hn => omega
        | n + 1, hn =>
          cases hr : lexL (j + k) (full.drop (j + k)) with
          | error e => rw [hr] at h; cases h
          | ok ts' =>
            rw [hr] at h
            injection h with h
            subst h
            rcases List.mem_cons.1 ht with rfl | ht
            · refine ⟨c, ?_, ?_⟩
              · have : (full.drop j)[0]? = some c := by rw [← hs0]; rfl
                rw [List.getElem?_drop] at this
                simpa using this
              · simp only at h4
                rw [firstP_eq] at hf
                split at hf
                · injection hf with hf; injection hf with hf _; rw [← hf] at h4; simp at h4
                split at hf
                · injection hf with hf; injection hf with hf _; rw [← hf] at h4; simp at h4
                split at hf
                · injection hf with hf; injection hf with hf _; rw [← hf] at h4; simp at h4
                split at hf
                · split at hf
                  · injection hf with hf; injection hf with hf _; rw [← hf] at h4; simp at h4
                  · split at hf
                    · injection hf with hf; injection hf with hf _; rw [← hf] at h4; simp at h4
                    · cases hf
                split at hf
                · cases hf
                · rename_i hw
                  split at hf
                  · cases hf
                  · rename_i t2 htk
                    injection hf with hf; injection hf with hf _; subst hf
                    have hl : isLetter c = true := by
                      unfold word at hw
                      rw [List.takeWhile_cons] at hw
                      split at hw
                      · assumption
                      · exact absurd rfl hw
                    have hwe : word (c :: r) = c :: word r := by unfold word; rw [List.takeWhile_cons, if_pos hl]
                    rw [hwe] at htk
                    unfold tokP at htk
                    split at htk
                    · rename_i hn4
                      rw [numP_cons2] at hn4
                      by_cases hc : c == 45
                      · exact .inl (by simpa using hc)
                      · rw [if_neg hc, List.all_cons, Bool.and_eq_true] at hn4
                        exact .inr hn4.1
                    · split at htk
                      · cases htk
                      · injection htk with htk
                        rw [← htk] at h4
                        simp at h4
            · exact num_first full n (j + k) ts' (by omega) (by omega) hr t ht h4
def AtB (l : List UInt8) (p : Int) (P : UInt8 → Prop) : Prop := 0 ≤ p ∧ p < l.length ∧ ∃ c, l[p.toNat]? = some c ∧ P c
/-- a token stands where it says -/
def TokOk (l : List UInt8) (t : Tok) : Prop := AtB l t.pos fun c => (t.kind = 1 → c = 40) ∧ (t.kind = 3 → c = 39) ∧ (t.kind = 4 → c = 45 ∨ isDigit c = true) ∧ (t.kind = 5 → c = 35) ∧ (t.kind = 6 → t.pos + t.s.length ≤ l.length ∧ (l.drop t.pos.toNat).take t.s.length = t.s)
def NdOk (l : List UInt8) (x : Nd) : Prop := (1 ≤ x.kind ∧ x.kind ≤ 4) ∧ AtB l x.pos fun c => (x.kind = 1 → c = 45 ∨ isDigit c = true) ∧ (x.kind = 2 → c = 35) ∧ (x.kind = 3 → (c = 39 ∧ x.s = quoteL) ∨ (x.pos + x.s.length ≤ l.length ∧ (l.drop x.pos.toNat).take x.s.length = x.s)) ∧ (x.kind = 4 → c = 40 ∨ c = 39)
def PtOk (l : List UInt8) (o : Pt) : Prop := AtB l o.at_ fun c => c = 40 ∨ c = 39
theorem put_ok (l : List UInt8) : ∀ (row : List Nd) (tops : List Int) (os : List Pt) (x : Nd), (∀ y ∈ row, NdOk l y) → (∀ o ∈ os, PtOk l o) → NdOk l x → (∀ y ∈ (putS row tops os x).1, NdOk l y) ∧ ∀ o ∈ (putS row tops os x).2.2, PtOk l o
  | row, tops, [], x, h1, _, h3 => by
    refine ⟨fun y hy => ?_, fun o ho => by cases ho⟩
    rcases List.mem_append.1 hy with hy | hy
    · exact h1 y hy
    · have : y = x := by simpa using hy
      subst this; exact h3
  | row, tops, o :: os, x, h1, h2, h3 => by
    have h1' : ∀ y ∈ row ++ [x], NdOk l y := fun y hy => by
      rcases List.mem_append.1 hy with hy | hy
      · exact h1 y hy
      · have : y = x := by simpa using hy
        subst this; exact h3
    have ho := h2 o (List.mem_cons_self ..)
    unfold putS
    split
    · refine put_ok l (row ++ [x]) tops os _ h1' (fun o' h => h2 o' (List.mem_cons_of_mem _ h)) ⟨by simp, ?_⟩
      obtain ⟨a, b, c, hc, hp⟩ := ho
      exact ⟨a, b, c, hc, fun h => absurd h (by simp), fun h => absurd h (by simp), fun h => absurd h (by simp), fun _ => hp⟩
    · refine ⟨h1', fun o' h => ?_⟩
      rcases List.mem_cons.1 h with rfl | h
      · exact ho
      · exact h2 o' (List.mem_cons_of_mem _ h)
theorem tok_ok {l : List UInt8} {st st' : List Nd × List Int × List Pt} {t : Tok} (h1 : ∀ y ∈ st.1, NdOk l y) (h2 : ∀ o ∈ st.2.2, PtOk l o) (ht : TokOk l t) (hk : 1 ≤ t.kind ∧ t.kind ≤ 6) (h : tokS st t = .ok st') : (∀ y ∈ st'.1, NdOk l y) ∧ ∀ o ∈ st'.2.2, PtOk l o := by
  obtain ⟨row, tops, os⟩ := st
  simp only at h1 h2
  obtain ⟨a, b, c, hc, k1, k3, k4, k5, k6⟩ := ht
  unfold tokS at h
  simp only at h
  split at h
  · rename_i hh
    injection h with h; rw [← h]
    exact put_ok l row tops os _ h1 h2 ⟨by simp, a, b, c, hc, fun _ => k4 hh, fun h => absurd h (by simp), fun h => absurd h (by simp), fun h => absurd h (by simp)⟩
  split at h
  · rename_i hh
    injection h with h; rw [← h]
    exact put_ok l row tops os _ h1 h2 ⟨by simp, a, b, c, hc, fun h => absurd h (by simp), fun _ => k5 hh, fun h => absurd h (by simp), fun h => absurd h (by simp)⟩
  split at h
  · rename_i hh
    injection h with h; rw [← h]
    exact put_ok l row tops os _ h1 h2 ⟨by simp, a, b, c, hc, fun h => absurd h (by simp), fun h => absurd h (by simp), fun _ => .inr (k6 hh), fun h => absurd h (by simp)⟩
  split at h
  · cases os with
    | nil => cases h
    | cons o os =>
      simp only at h
      split at h
      · cases h
      · injection h with h; rw [← h]
        obtain ⟨a', b', c', hc', hp⟩ := h2 o (List.mem_cons_self ..)
        exact put_ok l row tops os _ h1 (fun o' ho => h2 o' (List.mem_cons_of_mem _ ho)) ⟨by simp, a', b', c', hc', fun h => absurd h (by simp), fun h => absurd h (by simp), fun h => absurd h (by simp), fun _ => hp⟩
  split at h
  · cases h
  split at h
  · rename_i hh
    injection h with h; rw [← h]
    refine put_ok l row tops _ _ h1 (fun o' ho => ?_) ⟨by simp, a, b, c, hc, fun h => absurd h (by simp), fun h => absurd h (by simp), fun _ => .inl ⟨k3 hh, rfl⟩, fun h => absurd h (by simp)⟩
    rcases List.mem_cons.1 ho with rfl | ho
    · exact ⟨a, b, c, hc, .inr (k3 hh)⟩
    · exact h2 o' ho
  · injection h with h; rw [← h]
    refine ⟨h1, fun o' ho => ?_⟩
    rcases List.mem_cons.1 ho with rfl | ho
    · exact ⟨a, b, c, hc, .inl (k1 (by omega))⟩
    · exact h2 o' ho
theorem toks_ok {l : List UInt8} : ∀ (ts : List Tok) (st st' : List Nd × List Int × List Pt), (∀ y ∈ st.1, NdOk l y) → (∀ o ∈ st.2.2, PtOk l o) → (∀ t ∈ ts, TokOk l t ∧ 1 ≤ t.kind ∧ t.kind ≤ 6) → toksS st ts = .ok st' → ∀ y ∈ st'.1, NdOk l y
  | [], st, st', h1, _, _, h => by injection h with h; rw [← h]; exact h1
  | t :: ts, st, st', h1, h2, h3, h => by
    unfold toksS at h
    cases hx : tokS st t with
    | error e => rw [hx] at h; cases h
    | ok st2 =>
      rw [hx] at h
      obtain ⟨ht, hk⟩ := h3 t (List.mem_cons_self ..)
      obtain ⟨g1, g2⟩ := tok_ok h1 h2 ht hk hx
      exact toks_ok ts st2 st' g1 g2 (fun t' ht' => h3 t' (List.mem_cons_of_mem _ ht')) h
theorem stand_tok (full : List UInt8) : ∀ (ts : List Tok) (last : Int), -1 ≤ last → Stand full last ts → (∀ t ∈ ts, t.kind = 4 → ∃ c, full[t.pos.toNat]? = some c ∧ (c = 45 ∨ isDigit c = true)) → ∀ t ∈ ts, TokOk full t ∧ 1 ≤ t.kind ∧ t.kind ≤ 6
  | [], _, _, _, _, t, ht => by cases ht
  | t0 :: ts, last, hl, h, hn, t, ht => by
    obtain ⟨h1, h2, h3, h4, h5, h6⟩ := h
    rcases List.mem_cons.1 ht with rfl | ht
    · refine ⟨⟨by omega, h2, ?_⟩, h4.2⟩
      have hlt : t.pos.toNat < full.length := by omega
      refine ⟨full[t.pos.toNat], List.getElem?_eq_getElem hlt, ?_⟩
      have head : ∀ (c : UInt8) (r : List UInt8), textL t = c :: r → t.kind ≠ 4 → full[t.pos.toNat] = c := fun c r he hk => by
        obtain ⟨_, g2⟩ := h5 hk
        rw [he] at g2
        have g3 := congrArg (fun x => x[0]?) g2
        simp only [List.length_cons, List.getElem?_cons_zero] at g3
        rw [List.getElem?_take_of_lt (by omega), List.getElem?_drop, Nat.add_zero, List.getElem?_eq_getElem hlt] at g3
        exact Option.some.inj g3
      refine ⟨fun hk => head 40 [] (by unfold textL; rw [if_pos hk]) (by omega), fun hk => head 39 [] (by unfold textL; rw [if_neg (by omega), if_neg (by omega), if_pos hk]) (by omega), fun hk => ?_, fun hk => ?_, fun hk => ?_⟩
      · obtain ⟨c, hc, hp⟩ := hn t (List.mem_cons_self ..) hk
        rw [List.getElem?_eq_getElem hlt] at hc
        injection hc with hc
        rw [hc]; exact hp
      · by_cases hb : t.n = 1
        · exact head 35 [116] (by unfold textL; rw [if_neg (by omega), if_neg (by omega), if_neg (by omega), if_neg (by omega), if_pos hk, if_pos hb]) (by omega)
        · exact head 35 [102] (by unfold textL; rw [if_neg (by omega), if_neg (by omega), if_neg (by omega), if_neg (by omega), if_pos hk, if_neg hb]) (by omega)
      · have ht6 : textL t = t.s := by unfold textL; rw [if_neg (by omega), if_neg (by omega), if_neg (by omega), if_neg (by omega), if_neg (by omega)]
        have := h5 (by omega)
        rwa [ht6] at this
    · exact stand_tok full ts t0.pos (by omega) h6 (fun t ht => hn t (List.mem_cons_of_mem _ ht)) t ht
theorem lexF_ok {l : List UInt8} {ts : List Tok} (h : lexF l = .ok ts) : ∀ t ∈ ts, TokOk l t ∧ 1 ≤ t.kind ∧ t.kind ≤ 6 := by
  unfold lexF at h
  split at h
  · cases h
  · have h' : lexL 0 (l.drop 0) = .ok ts := by rw [List.drop_zero]; exact h
    have hs := stand_ok l l.length 0 ts (-1) (by omega) (by omega) (by omega) h'
    exact stand_tok l ts (-1) (by omega) hs (num_first l l.length 0 ts (by omega) (by omega) h')
/-- where data stand -/
theorem read_ok {l : List UInt8} {row : List Nd} {tops : List Int} (h : readF l = .ok (row, tops)) : (∀ x ∈ row, NdOk l x) ∧ row.length ≤ 2 * 4001 := by
  unfold readF at h
  cases hL : lexF l with
  | error x => rw [hL] at h; cases h
  | ok ts =>
    rw [hL] at h
    simp only at h
    unfold readT at h
    cases hT : toksS ([], [], []) ts with
    | error e => rw [hT] at h; cases h
    | ok st =>
      rw [hT] at h
      simp only at h
      unfold endS at h
      split at h
      · injection h with h
        injection h with h1 h2
        refine ⟨by rw [← h1]; exact toks_ok ts _ st (fun _ h => by cases h) (fun _ h => by cases h) (lexF_ok hL) hT, ?_⟩
        have key : ∀ (ts : List Tok) (k : Nat) (st st' : List Nd × List Int × List Pt), Inv k st → toksS st ts = .ok st' → Inv (k + ts.length) st' := by
          intro ts
          induction ts with
          | nil => intro k st st' hi hh; injection hh with hh; rw [← hh]; exact hi
          | cons t ts ih =>
            intro k st st' hi hh
            unfold toksS at hh
            cases hx : tokS st t with
            | error e => rw [hx] at hh; cases hh
            | ok st2 =>
              rw [hx] at hh
              have := ih (k + 1) st2 st' (tok_small hi hx) hh
              rw [List.length_cons, show k + (ts.length + 1) = k + 1 + ts.length from by omega]
              exact this
        have hi := key ts 0 ([], [], []) st ⟨Nat.le_refl _, Nat.le_refl _, Nat.zero_le _, fun _ h => by cases h⟩ hT
        have := hi.1
        have hl := (lexF_kinds hL).2
        rw [← h1]
        omega
      · cases h
theorem toksS_err : ∀ (ts : List Tok) (st : List Nd × List Int × List Pt) (i er : Int), toksS st ts = .error (i, er) → er ≠ 0
  | [], _, _, _, h => by cases h
  | t :: ts, st, i, er, h => by
    unfold toksS at h
    cases hx : tokS st t with
    | error e =>
      rw [hx] at h
      injection h with h
      injection h with _ h
      subst h
      unfold tokS at hx
      split at hx
      · cases hx
      split at hx
      · cases hx
      split at hx
      · cases hx
      split at hx
      · split at hx
        · injection hx with hx; omega
        · split at hx
          · injection hx with hx; omega
          · cases hx
      split at hx
      · injection hx with hx; omega
      split at hx
      · cases hx
      · cases hx
    | ok st2 =>
      rw [hx] at h
      exact toksS_err ts st2 i er h
theorem readF_err {l : List UInt8} {i er : Int} (h : readF l = .error (i, er)) : er ≠ 0 := by
  unfold readF at h
  cases hL : lexF l with
  | error x =>
    obtain ⟨j, e⟩ := x
    rw [hL] at h
    injection h with h
    injection h with _ h
    subst h
    unfold lexF at hL
    split at hL
    · injection hL with hL; injection hL with _ hL; omega
    · exact lexL_err _ _ _ _ _ (Nat.le_refl _) hL
  | ok ts =>
    rw [hL] at h
    simp only at h
    unfold readT at h
    cases hT : toksS ([], [], []) ts with
    | error x =>
      rw [hT] at h
      injection h with h
      subst h
      exact toksS_err ts _ _ _ hT
    | ok st =>
      rw [hT] at h
      simp only at h
      unfold endS at h
      split at h
      · cases h
      · injection h with h
        injection h with _ h
        split at h <;> omega
open Go.Proofs.YtomhkemdafiphaaGreatDoor.LexP
def shN (d m : Nat) (x : Nd) : Nd := ⟨x.kind, x.pos + d, x.n, x.s, x.l.map fun p => p + (m : Int)⟩
def shP (d m : Nat) (o : Pt) : Pt := ⟨o.at_ + d, o.quote, o.l.map fun p => p + (m : Int)⟩
/-- a state behind data that are there already -/
def shS (d : Nat) (R0 : List Nd) (T0 : List Int) (st : List Nd × List Int × List Pt) : List Nd × List Int × List Pt :=
  (R0 ++ st.1.map (shN d R0.length), T0 ++ st.2.1.map (fun p => p + (R0.length : Int)), st.2.2.map (shP d R0.length))
theorem put_sh (d : Nat) (R0 : List Nd) (T0 : List Int) : ∀ (row : List Nd) (tops : List Int) (os : List Pt) (x : Nd),
    putS (R0 ++ row.map (shN d R0.length)) (T0 ++ tops.map (fun p => p + (R0.length : Int))) (os.map (shP d R0.length)) (shN d R0.length x) = shS d R0 T0 (putS row tops os x)
  | row, tops, [], x => by
    simp [putS, shS]
    omega
  | row, tops, o :: os, x => by
    have hn : ((R0 ++ row.map (shN d R0.length)).length : Int) = (row.length : Int) + (R0.length : Int) := by simp; omega
    rw [List.map_cons, putS, putS]
    have hl : (shP d R0.length o).l.length = o.l.length := by simp [shP]
    rw [hl, show (shP d R0.length o).quote = o.quote from rfl]
    by_cases hq : (o.quote && o.l.length == 1) = true
    · rw [if_pos hq, if_pos hq]
      have := put_sh d R0 T0 (row ++ [x]) tops os ⟨4, o.at_, 0, [], o.l ++ [(row.length : Int)]⟩
      rw [← this, List.map_append, ← List.append_assoc]
      congr 1
      rw [hn]
      simp [shN, shP]
    · rw [if_neg hq, if_neg hq, hn]
      simp [shS, shP]
theorem tok_sh (d : Nat) (R0 : List Nd) (T0 : List Int) (st : List Nd × List Int × List Pt) (t : Tok) : tokS (shS d R0 T0 st) (shift d t) = match tokS st t with
    | .error e => .error e
    | .ok st' => .ok (shS d R0 T0 st') := by
  obtain ⟨row, tops, os⟩ := st
  have hk : (shift d t).kind = t.kind := rfl
  have hp : (shift d t).pos = t.pos + d := rfl
  have hn : (shift d t).n = t.n := rfl
  have hs : (shift d t).s = t.s := rfl
  have pd : ∀ x : Nd, x.l = [] → putS (shS d R0 T0 (row, tops, os)).1 (shS d R0 T0 (row, tops, os)).2.1 (shS d R0 T0 (row, tops, os)).2.2 ⟨x.kind, x.pos + d, x.n, x.s, []⟩ = shS d R0 T0 (putS row tops os x) := fun x hx => by
    rw [← put_sh]
    simp [shS, shN, hx]
  unfold tokS
  rw [hk, hp, hn, hs]
  by_cases h4 : t.kind = 4
  · rw [if_pos h4, if_pos h4, pd ⟨1, t.pos, t.n, [], []⟩ rfl]
  rw [if_neg h4, if_neg h4]
  by_cases h5 : t.kind = 5
  · rw [if_pos h5, if_pos h5, pd ⟨2, t.pos, t.n, [], []⟩ rfl]
  rw [if_neg h5, if_neg h5]
  by_cases h6 : t.kind = 6
  · rw [if_pos h6, if_pos h6, pd ⟨3, t.pos, 0, t.s, []⟩ rfl]
  rw [if_neg h6, if_neg h6]
  by_cases h2 : t.kind = 2
  · rw [if_pos h2, if_pos h2]
    cases os with
    | nil => rfl
    | cons o os =>
      simp only [shS, List.map_cons]
      rw [show (shP d R0.length o).quote = o.quote from rfl]
      by_cases hq : o.quote = true
      · rw [if_pos hq, if_pos hq]
      · rw [if_neg hq, if_neg hq]
        have := put_sh d R0 T0 row tops os ⟨4, o.at_, 0, [], o.l⟩
        simp only [shN, shP] at this ⊢
        rw [this]
        rfl
  rw [if_neg h2, if_neg h2]
  have hlen : (shS d R0 T0 (row, tops, os)).2.2.length = os.length := by simp [shS]
  rw [hlen]
  by_cases h50 : 50 ≤ os.length
  · rw [if_pos h50, if_pos h50]
  rw [if_neg h50, if_neg h50]
  by_cases h3 : t.kind = 3
  · rw [if_pos h3, if_pos h3]
    have := put_sh d R0 T0 row tops (⟨t.pos, true, []⟩ :: os) ⟨3, t.pos, 0, quoteL, []⟩
    simp only [shN, shP, List.map_cons, List.map_nil] at this
    simp only [shS]
    rw [this]
    rfl
  · rw [if_neg h3, if_neg h3]
    rfl
theorem toks_sh (d : Nat) (R0 : List Nd) (T0 : List Int) : ∀ (ts : List Tok) (st : List Nd × List Int × List Pt), toksS (shS d R0 T0 st) (ts.map (shift d)) = match toksS st ts with
    | .error (i, e) => .error (i + d, e)
    | .ok st' => .ok (shS d R0 T0 st')
  | [], st => rfl
  | t :: ts, st => by
    rw [List.map_cons, toksS, tok_sh]
    conv => rhs; rw [toksS]
    cases tokS st t with
    | error e => rfl
    | ok st2 => exact toks_sh d R0 T0 ts st2
theorem toks_app : ∀ (a b : List Tok) (st : List Nd × List Int × List Pt), toksS st (a ++ b) = match toksS st a with
    | .error e => .error e
    | .ok st' => toksS st' b
  | [], b, st => rfl
  | t :: a, b, st => by
    rw [List.cons_append, toksS]
    conv => rhs; rw [toksS]
    cases tokS st t with
    | error e => rfl
    | ok st2 => exact toks_app a b st2
/-- two texts, with a newline between -/
theorem read_joins (l1 l2 : List UInt8) (h1 : l1.length ≤ 1000) (h2 : l2.length ≤ 1000) {ra : List Nd} {ta : List Int} (h : readF l1 = .ok (ra, ta)) : readF (l1 ++ 10 :: l2) = match readF l2 with
    | .error (i, e) => .error (i + ((l1.length + 1 : Nat) : Int), e)
    | .ok (rb, tb) => .ok (ra ++ rb.map (shN (l1.length + 1) ra.length), ta ++ tb.map fun p => p + (ra.length : Int)) := by
  have hj := lex_joins l1 l2
  unfold readF at h ⊢
  rw [lexF_eq (by omega)] at h
  rw [lexF_eq (by rw [List.length_append, List.length_cons]; omega), lexF_eq (by omega), hj]
  cases ha : lexL 0 l1 with
  | error x => rw [ha] at h; cases h
  | ok a =>
    rw [ha] at h
    simp only at h
    have hst : toksS ([], [], []) a = .ok (ra, ta, []) := by
      unfold readT at h
      cases hT : toksS ([], [], []) a with
      | error e => rw [hT] at h; cases h
      | ok st =>
        rw [hT] at h
        simp only at h
        unfold endS at h
        obtain ⟨x, y, z⟩ := st
        cases z with
        | nil => simp only at h; injection h with h; injection h with e1 e2; rw [e1, e2]
        | cons o os => cases h
    simp only
    cases hb : lexL 0 l2 with
    | error x => obtain ⟨j, e⟩ := x; simp only; rfl
    | ok b =>
      simp only
      unfold readT
      rw [toks_app, hst]
      have hs := toks_sh (l1.length + 1) ra ta b ([], [], [])
      simp only [shS, List.map_nil, List.append_nil] at hs
      simp only
      rw [hs]
      cases hT : toksS ([], [], []) b with
      | error x => obtain ⟨i, e⟩ := x; rfl
      | ok st =>
        obtain ⟨x, y, z⟩ := st
        simp only
        cases z with
        | nil => rfl
        | cons o os =>
          unfold endS
          simp only [List.map_cons]
          have hne : b ≠ [] := by
            intro e; subst e
            injection hT with hT
            injection hT with _ hT
            injection hT with _ hT
            cases hT
          have hl : (a ++ b.map (shift (l1.length + 1))).getLast?.map (·.kind) = b.getLast?.map (·.kind) := by
            rw [List.getLast?_append, List.getLast?_map]
            cases hg : b.getLast? with
            | none => rw [List.getLast?_eq_none_iff] at hg; exact absurd hg hne
            | some t => rfl
          rw [hl]
          rfl
open Go.Proofs.YtomhkemdafiphaaGreatDoor.LexP
/-- a list's places lie in a row, and are no more than it has -/
def Lo (n : Nat) (l : List Int) : Prop := l.length ≤ n ∧ ∀ p ∈ l, 0 ≤ p ∧ p < n
theorem Lo.mono {n m : Nat} {l : List Int} (h : Lo n l) (hm : n ≤ m) : Lo m l := ⟨by have := h.1; omega, fun p hp => by have := h.2 p hp; omega⟩
theorem Lo.app {n : Nat} {l : List Int} (h : Lo n l) : Lo (n + 1) (l ++ [(n : Int)]) := ⟨by have := h.1; simp; omega, fun p hp => by
  rcases List.mem_append.1 hp with hp | hp
  · have := h.2 p hp; omega
  · have : p = (n : Int) := by simpa using hp
    omega⟩
theorem Lo.nil (n : Nat) : Lo n [] := ⟨Nat.zero_le _, fun _ h => by cases h⟩
def InvLo (st : List Nd × List Int × List Pt) : Prop := (∀ x ∈ st.1, Lo st.1.length x.l) ∧ Lo st.1.length st.2.1 ∧ ∀ o ∈ st.2.2, Lo st.1.length o.l
theorem put_lo : ∀ (row : List Nd) (tops : List Int) (os : List Pt) (x : Nd), InvLo (row, tops, os) → Lo row.length x.l → InvLo (putS row tops os x)
  | row, tops, [], x, ⟨h1, h2, _⟩, hx => by
    have hl : (row ++ [x]).length = row.length + 1 := by simp
    refine ⟨fun y hy => ?_, ?_, fun o ho => by cases ho⟩
    · show Lo (row ++ [x]).length _
      rw [hl]
      rcases List.mem_append.1 hy with hy | hy
      · exact (h1 y hy).mono (Nat.le_succ _)
      · have : y = x := by simpa using hy
        rw [this]; exact hx.mono (Nat.le_succ _)
    · show Lo (row ++ [x]).length _
      rw [hl]; exact Lo.app h2
  | row, tops, o :: os, x, ⟨h1, h2, h3⟩, hx => by
    have hl : (row ++ [x]).length = row.length + 1 := by simp
    have h1' : ∀ y ∈ row ++ [x], Lo (row ++ [x]).length y.l := fun y hy => by
      rw [hl]
      rcases List.mem_append.1 hy with hy | hy
      · exact (h1 y hy).mono (Nat.le_succ _)
      · have : y = x := by simpa using hy
        rw [this]; exact hx.mono (Nat.le_succ _)
    have ho := h3 o (List.mem_cons_self ..)
    unfold putS
    split
    · refine put_lo (row ++ [x]) tops os _ ⟨h1', ?_, fun o' h => ?_⟩ ?_
      · show Lo (row ++ [x]).length _
        rw [hl]; exact Lo.mono h2 (Nat.le_succ _)
      · show Lo (row ++ [x]).length _
        rw [hl]; exact (h3 o' (List.mem_cons_of_mem _ h)).mono (Nat.le_succ _)
      · rw [hl]; exact Lo.app ho
    · refine ⟨h1', ?_, fun o' h => ?_⟩
      · show Lo (row ++ [x]).length _
        rw [hl]; exact Lo.mono h2 (Nat.le_succ _)
      · show Lo (row ++ [x]).length _
        rw [hl]
        rcases List.mem_cons.1 h with rfl | h
        · exact Lo.app ho
        · exact (h3 o' (List.mem_cons_of_mem _ h)).mono (Nat.le_succ _)
theorem tok_lo {st st' : List Nd × List Int × List Pt} {t : Tok} (h : InvLo st) (ht : tokS st t = .ok st') : InvLo st' := by
  obtain ⟨row, tops, os⟩ := st
  have pd : ∀ x : Nd, x.l = [] → InvLo (putS row tops os x) := fun x hx => put_lo row tops os x h (by rw [hx]; exact Lo.nil _)
  obtain ⟨h1, h2, h3⟩ := h
  unfold tokS at ht
  simp only at ht h1 h2 h3
  split at ht
  · injection ht with ht; rw [← ht]; exact pd _ rfl
  split at ht
  · injection ht with ht; rw [← ht]; exact pd _ rfl
  split at ht
  · injection ht with ht; rw [← ht]; exact pd _ rfl
  split at ht
  · cases os with
    | nil => cases ht
    | cons o os =>
      simp only at ht
      split at ht
      · cases ht
      · injection ht with ht
        rw [← ht]
        exact put_lo row tops os _ ⟨h1, h2, fun o' ho => h3 o' (List.mem_cons_of_mem _ ho)⟩ (h3 o (List.mem_cons_self ..))
  split at ht
  · cases ht
  split at ht
  · injection ht with ht
    rw [← ht]
    refine put_lo row tops _ _ ⟨h1, h2, fun o' ho => ?_⟩ (Lo.nil _)
    rcases List.mem_cons.1 ho with rfl | ho
    · exact Lo.nil _
    · exact h3 o' ho
  · injection ht with ht
    rw [← ht]
    refine ⟨h1, h2, fun o' ho => ?_⟩
    rcases List.mem_cons.1 ho with rfl | ho
    · exact Lo.nil _
    · exact h3 o' ho
theorem toks_lo : ∀ (ts : List Tok) (st st' : List Nd × List Int × List Pt), InvLo st → toksS st ts = .ok st' → InvLo st'
  | [], st, st', h, hh => by injection hh with hh; rw [← hh]; exact h
  | t :: ts, st, st', h, hh => by
    unfold toksS at hh
    cases hx : tokS st t with
    | error e => rw [hx] at hh; cases hh
    | ok st2 =>
      rw [hx] at hh
      exact toks_lo ts st2 st' (tok_lo h hx) hh
theorem read_lo {l : List UInt8} {row : List Nd} {tops : List Int} (h : readF l = .ok (row, tops)) : (∀ x ∈ row, Lo row.length x.l) ∧ Lo row.length tops := by
  unfold readF at h
  cases hL : lexF l with
  | error x => rw [hL] at h; cases h
  | ok ts =>
    rw [hL] at h
    simp only at h
    unfold readT at h
    cases hT : toksS ([], [], []) ts with
    | error e => rw [hT] at h; cases h
    | ok st =>
      rw [hT] at h
      simp only at h
      unfold endS at h
      split at h
      · injection h with h
        injection h with h1 h2
        have := toks_lo ts _ st ⟨fun _ h => (by cases h), Lo.nil _, fun _ h => (by cases h)⟩ hT
        rw [← h1, ← h2]
        exact ⟨this.1, this.2.1⟩
      · cases h
/-- what is open stands in the text; so does what is told -/
theorem toks_pos {l : List UInt8} : ∀ (ts : List Tok) (st : List Nd × List Int × List Pt), (∀ y ∈ st.1, NdOk l y) → (∀ o ∈ st.2.2, PtOk l o) → (∀ t ∈ ts, TokOk l t ∧ 1 ≤ t.kind ∧ t.kind ≤ 6) → match toksS st ts with
    | .error (i, _) => 0 ≤ i ∧ i < l.length
    | .ok st' => ∀ o ∈ st'.2.2, PtOk l o
  | [], st, _, h2, _ => h2
  | t :: ts, st, h1, h2, h3 => by
    have ht := h3 t (List.mem_cons_self ..)
    unfold toksS
    cases hx : tokS st t with
    | error e => exact ⟨ht.1.1, ht.1.2.1⟩
    | ok st2 =>
      obtain ⟨g1, g2⟩ := tok_ok h1 h2 ht.1 ht.2 hx
      exact toks_pos ts st2 g1 g2 (fun t' h => h3 t' (List.mem_cons_of_mem _ h))
theorem readF_pos {l : List UInt8} {i er : Int} (h : readF l = .error (i, er)) : 0 ≤ i ∧ i ≤ l.length := by
  unfold readF at h
  cases hL : lexF l with
  | error x =>
    obtain ⟨j, e⟩ := x
    rw [hL] at h
    injection h with h
    injection h with h _
    rw [← h]
    unfold lexF at hL
    split at hL
    · injection hL with hL
      injection hL with hL _
      rw [← hL]; omega
    · have := lexL_errpos _ _ _ _ _ (Nat.le_refl _) hL
      omega
  | ok ts =>
    rw [hL] at h
    simp only at h
    unfold readT at h
    have hp := toks_pos ts ([], [], []) (fun _ h => by cases h) (fun _ h => by cases h) (lexF_ok hL)
    cases hT : toksS ([], [], []) ts with
    | error e =>
      rw [hT] at h hp
      obtain ⟨j, e⟩ := e
      injection h with h
      injection h with h _
      rw [← h]
      simp only at hp
      omega
    | ok st =>
      rw [hT] at h hp
      simp only at h hp
      unfold endS at h
      split at h
      · cases h
      · rename_i o os ho
        injection h with h
        injection h with h _
        have := hp o (by rw [ho]; exact List.mem_cons_self ..)
        rw [← h]
        have a1 := this.1
        have a2 := this.2.1
        omega
end Go.Proofs.YtomhkemdafiphaaGreatDoor.ReadP

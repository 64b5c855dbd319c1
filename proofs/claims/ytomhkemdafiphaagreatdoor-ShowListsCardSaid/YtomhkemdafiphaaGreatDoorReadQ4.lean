import Derived.Test.YtomhkemdafiphaaGreatDoorReadQ3
namespace Go.Proofs.YtomhkemdafiphaaGreatDoor.ReadP
open Go.Proofs.YtomhkemdafiphaaGreatDoor.LexP
/-- a datum but for where it stands -/
def noP (x : Nd) : Nd := ⟨x.kind, 0, x.n, x.s, x.l⟩
/-- tokens that put one datum, whatever is open -/
def Puts (d : Nat) (X : List Tok) (f : Nat → List Nd × Nd) : Prop := ∀ row tops os, os.length + d ≤ 50 → toksS (row, tops, os) X = .ok (putS (row ++ (f row.length).1) tops os (f row.length).2)
def Like (f g : Nat → List Nd × Nd) : Prop := ∀ n, (f n).1.map noP = (g n).1.map noP ∧ noP (f n).2 = noP (g n).2
theorem Like.len {f g : Nat → List Nd × Nd} (h : Like f g) (n : Nat) : (f n).1.length = (g n).1.length := by
  have := congrArg List.length (h n).1
  simpa using this
theorem toks_one (t : Tok) (X : List Tok) (st st' : List Nd × List Int × List Pt) (h : tokS st t = .ok st') : toksS st (t :: X) = toksS st' X := by
  rw [toksS, h]
/-- what a quote puts ahead of the datum f -/
def qf (p : Int) (f : Nat → List Nd × Nd) : Nat → List Nd × Nd := fun n =>
  (⟨3, p, 0, quoteL, []⟩ :: (f (n + 1)).1 ++ [(f (n + 1)).2], ⟨4, p, 0, [], [(n : Int), ((n + 1 + (f (n + 1)).1.length : Nat) : Int)]⟩)
theorem puts_quote {d : Nat} {X : List Tok} {f : Nat → List Nd × Nd} (h : Puts d X f) (p : Int) : Puts (d + 1) (⟨3, p, 0, []⟩ :: X) (qf p f) := by
  intro row tops os ho
  have e : tokS (row, tops, os) ⟨3, p, 0, []⟩ = .ok (row ++ [⟨3, p, 0, quoteL, []⟩], tops, ⟨p, true, [(row.length : Int)]⟩ :: os) := by
    unfold tokS
    simp only
    rw [if_neg (by decide), if_neg (by decide), if_neg (by decide), if_neg (by decide), if_neg (by omega)]
    rfl
  rw [toks_one _ _ _ _ e, h _ _ _ (by rw [List.length_cons]; omega), putS, if_pos (by simp)]
  simp [qf, Nat.add_assoc]
  try rw [show ((f (row.length + 1)).fst.length : Int) + 1 = 1 + ((f (row.length + 1)).fst.length : Int) from Int.add_comm _ _]
/-- a quote written as a list -/
theorem puts_list {d : Nat} {X : List Tok} {f : Nat → List Nd × Nd} (h : Puts d X f) (p p1 p2 : Int) : Puts (d + 1) (⟨1, p, 0, []⟩ :: ⟨6, p1, 0, quoteL⟩ :: (X ++ [⟨2, p2, 0, []⟩])) (fun n => ((⟨3, p1, 0, quoteL, []⟩ : Nd) :: (f (n + 1)).1 ++ [(f (n + 1)).2], ⟨4, p, 0, [], [(n : Int), ((n + 1 + (f (n + 1)).1.length : Nat) : Int)]⟩)) := by
  intro row tops os ho
  have e1 : tokS (row, tops, os) ⟨1, p, 0, []⟩ = .ok (row, tops, ⟨p, false, []⟩ :: os) := by
    unfold tokS
    simp only
    rw [if_neg (by decide), if_neg (by decide), if_neg (by decide), if_neg (by decide), if_neg (by omega), if_neg (by decide)]
  have e2 : tokS (row, tops, ⟨p, false, []⟩ :: os) ⟨6, p1, 0, quoteL⟩ = .ok (row ++ [⟨3, p1, 0, quoteL, []⟩], tops, ⟨p, false, [(row.length : Int)]⟩ :: os) := rfl
  rw [toks_one _ _ _ _ e1, toks_one _ _ _ _ e2, toks_app, h _ _ _ (by rw [List.length_cons]; omega), putS, if_neg (by simp)]
  simp only
  rw [toks_one _ [] _ _ (show tokS _ ⟨2, p2, 0, []⟩ = .ok (putS _ tops os ⟨4, p, 0, [], _⟩) from rfl)]
  simp [Nat.add_assoc, toksS]
  rw [show ((f (row.length + 1)).fst.length : Int) + 1 = 1 + ((f (row.length + 1)).fst.length : Int) from Int.add_comm _ _]
theorem like_quote {f g : Nat → List Nd × Nd} (h : Like f g) (p q q1 : Int) : Like (qf p f) (fun n => ((⟨3, q1, 0, quoteL, []⟩ : Nd) :: (g (n + 1)).1 ++ [(g (n + 1)).2], ⟨4, q, 0, [], [(n : Int), ((n + 1 + (g (n + 1)).1.length : Nat) : Int)]⟩)) := by
  intro n
  obtain ⟨a, b⟩ := h (n + 1)
  have c := h.len (n + 1)
  simp only [qf, List.map_append, List.map_cons, List.map_nil, a, b, c]
  exact ⟨rfl, rfl⟩
/-- data that stand by themselves, one behind the other -/
theorem puts_top {X : List Tok} {f : Nat → List Nd × Nd} {d : Nat} (h : Puts d X f) (hd : d ≤ 50) (row : List Nd) (tops : List Int) : toksS (row, tops, []) X = .ok (row ++ (f row.length).1 ++ [(f row.length).2], tops ++ [((row.length + (f row.length).1.length : Nat) : Int)], []) := by
  rw [h row tops [] (by simpa using hd), putS, List.length_append]
theorem puts_int (p n : Int) (d : Nat) : Puts d [⟨4, p, n, []⟩] (fun _ => ([], ⟨1, p, n, [], []⟩)) := fun row tops os _ => by
  show toksS _ _ = .ok (putS (row ++ []) tops os _)
  rw [List.append_nil, toks_one _ [] _ _ (show tokS (row, tops, os) ⟨4, p, n, []⟩ = .ok (putS row tops os ⟨1, p, n, [], []⟩) from rfl)]
  rfl
theorem puts_name (p : Int) (s : List UInt8) (d : Nat) : Puts d [⟨6, p, 0, s⟩] (fun _ => ([], ⟨3, p, 0, s, []⟩)) := fun row tops os _ => by
  show toksS _ _ = .ok (putS (row ++ []) tops os _)
  rw [List.append_nil, toks_one _ [] _ _ (show tokS (row, tops, os) ⟨6, p, 0, s⟩ = .ok (putS row tops os ⟨3, p, 0, s, []⟩) from rfl)]
  rfl
theorem tok_open (row : List Nd) (tops : List Int) (os : List Pt) (p : Int) (h : os.length + 1 ≤ 50) : tokS (row, tops, os) ⟨1, p, 0, []⟩ = .ok (row, tops, ⟨p, false, []⟩ :: os) := by
  unfold tokS
  simp only
  rw [if_neg (by decide), if_neg (by decide), if_neg (by decide), if_neg (by decide), if_neg (by omega), if_neg (by decide)]
theorem puts_unit (p p2 : Int) : Puts 1 [⟨1, p, 0, []⟩, ⟨2, p2, 0, []⟩] (fun _ => ([], ⟨4, p, 0, [], []⟩)) := fun row tops os ho => by
  show toksS _ _ = .ok (putS (row ++ []) tops os _)
  rw [List.append_nil, toks_one _ _ _ _ (tok_open row tops os p ho), toks_one _ [] _ _ (show tokS _ ⟨2, p2, 0, []⟩ = .ok (putS row tops os ⟨4, p, 0, [], []⟩) from rfl)]
  rfl
theorem puts_two (p pa pb p2 : Int) (a b : List UInt8) : Puts 1 [⟨1, p, 0, []⟩, ⟨6, pa, 0, a⟩, ⟨6, pb, 0, b⟩, ⟨2, p2, 0, []⟩] (fun n => ([⟨3, pa, 0, a, []⟩, ⟨3, pb, 0, b, []⟩], ⟨4, p, 0, [], [(n : Int), ((n + 1 : Nat) : Int)]⟩)) := fun row tops os ho => by
  rw [toks_one _ _ _ _ (tok_open row tops os p ho),
    toks_one _ _ _ _ (show tokS (row, tops, ⟨p, false, []⟩ :: os) ⟨6, pa, 0, a⟩ = .ok (row ++ [⟨3, pa, 0, a, []⟩], tops, ⟨p, false, [(row.length : Int)]⟩ :: os) from rfl),
    toks_one _ _ _ _ (show tokS (row ++ [⟨3, pa, 0, a, []⟩], tops, ⟨p, false, [(row.length : Int)]⟩ :: os) ⟨6, pb, 0, b⟩ = .ok ((row ++ [⟨3, pa, 0, a, []⟩]) ++ [⟨3, pb, 0, b, []⟩], tops, ⟨p, false, [(row.length : Int), ((row ++ [(⟨3, pa, 0, a, []⟩ : Nd)]).length : Int)]⟩ :: os) from rfl),
    toks_one _ [] _ _ (show tokS _ ⟨2, p2, 0, []⟩ = .ok (putS _ tops os ⟨4, p, 0, [], _⟩) from rfl)]
  simp [toksS]
theorem like_refl (f g : Nat → List Nd × Nd) (h : ∀ n, (f n).1.map noP = (g n).1.map noP ∧ noP (f n).2 = noP (g n).2) : Like f g := h
end Go.Proofs.YtomhkemdafiphaaGreatDoor.ReadP

import Derived.Test.YthfbkhjcnfjmmaaDoorReadP
namespace Go.Proofs.YthfbkhjcnfjmmaaDoor.ReadP
/-- is a datum one of data, but for its list? -/
def rightB (x : Nd) : Bool := !decide (x.pos < 0) && (x.s == [] || x.kind == 3) && (x.kind == 4 || x.l == []) && (x.kind == 1 || (x.kind == 2 && (x.n == 0 || x.n == 1)) || ((x.kind == 3 || x.kind == 4) && x.n == 0))
/-- places of a list: which have been seen behind it -/
def seenF (i : Nat) : List Int → List Int → Option (List Int)
  | seen, [] => some seen
  | seen, p :: ps => if p < 0 ∨ (i : Int) ≤ p ∨ p ∈ seen then none else seenF i (seen ++ [p]) ps
/-- may data be a row? -/
def mayF (i : Nat) (seen : List Int) : List Nd → Bool
  | [] => true
  | x :: xs => rightB x && (match seenF i seen x.l with | none => false | some s => mayF (i + 1) s xs)
theorem may_at {L : List Nd} {k : Nat} {x : Nd} (h : L[k]? = some x) (seen : List Int) : mayF k seen (L.drop k) = (rightB x && (match seenF k seen x.l with | none => false | some s => mayF (k + 1) s (L.drop (k + 1)))) := by
  have hk : k < L.length := (List.getElem?_eq_some_iff.1 h).1
  rw [List.drop_eq_getElem_cons hk, show L[k] = x from (List.getElem?_eq_some_iff.1 h).2]
  rfl
theorem seen_at {l : List Int} {j : Nat} {p : Int} (h : l[j]? = some p) (i : Nat) (seen : List Int) : seenF i seen (l.drop j) = if p < 0 ∨ (i : Int) ≤ p ∨ p ∈ seen then none else seenF i (seen ++ [p]) (l.drop (j + 1)) := by
  have hk : j < l.length := (List.getElem?_eq_some_iff.1 h).1
  rw [List.drop_eq_getElem_cons hk, show l[j] = p from (List.getElem?_eq_some_iff.1 h).2]
  rfl
end Go.Proofs.YthfbkhjcnfjmmaaDoor.ReadP

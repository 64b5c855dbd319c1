/- Layer 6 (read) in plain lists: data of tokens; no conditions. -/
import Derived.Test.YthfbkhjcnfjmmaaDoorLexP2
namespace Go.Proofs.YthfbkhjcnfjmmaaDoor.ReadP
open Go.Proofs.YthfbkhjcnfjmmaaDoor.LexP
/-- a datum -/
structure Nd where
  kind : Int
  pos : Int
  n : Int
  s : List UInt8
  l : List Int
  deriving DecidableEq
/-- a list that is open -/
structure Pt where
  at_ : Int
  quote : Bool
  l : List Int
  deriving DecidableEq
/-- a datum that is whole is put; what is open: the last one first -/
def putS : List Nd → List Int → List Pt → Nd → List Nd × List Int × List Pt
  | row, tops, [], x => (row ++ [x], tops ++ [(row.length : Int)], [])
  | row, tops, o :: os, x => if o.quote && o.l.length == 1 then putS (row ++ [x]) tops os ⟨4, o.at_, 0, [], o.l ++ [(row.length : Int)]⟩ else (row ++ [x], tops, ⟨o.at_, o.quote, o.l ++ [(row.length : Int)]⟩ :: os)
def quoteL : List UInt8 := [113, 117, 111, 116, 101]
/-- a token is read, or what is wrong -/
def tokS (st : List Nd × List Int × List Pt) (t : Tok) : Except Int (List Nd × List Int × List Pt) :=
  if t.kind = 4 then .ok (putS st.1 st.2.1 st.2.2 ⟨1, t.pos, t.n, [], []⟩)
  else if t.kind = 5 then .ok (putS st.1 st.2.1 st.2.2 ⟨2, t.pos, t.n, [], []⟩)
  else if t.kind = 6 then .ok (putS st.1 st.2.1 st.2.2 ⟨3, t.pos, 0, t.s, []⟩)
  else if t.kind = 2 then (match st.2.2 with
    | [] => .error 61
    | o :: os => if o.quote then .error 63 else .ok (putS st.1 st.2.1 os ⟨4, o.at_, 0, [], o.l⟩))
  else if 50 ≤ st.2.2.length then .error 62
  else if t.kind = 3 then .ok (putS st.1 st.2.1 (⟨t.pos, true, []⟩ :: st.2.2) ⟨3, t.pos, 0, quoteL, []⟩)
  else .ok (st.1, st.2.1, ⟨t.pos, false, []⟩ :: st.2.2)
/-- tokens are read one by one: or where it is wrong, and how -/
def toksS : List Nd × List Int × List Pt → List Tok → Except (Int × Int) (List Nd × List Int × List Pt)
  | st, [] => .ok st
  | st, t :: ts => match tokS st t with
    | .error e => .error (t.pos, e)
    | .ok st' => toksS st' ts
/-- what is open at the end is wrong -/
def endS (last : Option Tok) (st : List Nd × List Int × List Pt) : Except (Int × Int) (List Nd × List Int) := match st.2.2 with
  | [] => .ok (st.1, st.2.1)
  | o :: _ => .error (o.at_, if last.map (·.kind) = some 3 then 63 else 60)
/-- what comes of tokens -/
def readT (ts : List Tok) : Except (Int × Int) (List Nd × List Int) := match toksS ([], [], []) ts with
  | .error e => .error e
  | .ok st => endS ts.getLast? st
/-- Read -/
def readF (l : List UInt8) : Except (Int × Int) (List Nd × List Int) := match lexF l with
  | .error (i, e) => .error ((i : Int), e)
  | .ok ts => readT ts
end Go.Proofs.YthfbkhjcnfjmmaaDoor.ReadP

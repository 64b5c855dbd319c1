/- The walk of ReadJoins: for any two texts the law answers true; its premise is what the row lays. -/
import Derived.Test.YthfbkhjcnfjmmaaDoorReadQ2
import Derived.Test.YthfbkhjcnfjmmaaDoorLexVars
import Derived.Test.YthfbkhjcnfjmmaaDoorRows
namespace Go.Proofs.YthfbkhjcnfjmmaaDoor.PReads
open Go Go.RowKit
theorem walkReadJoins (s t : ByteArray) (w : World) (hL : laidMetH Tryd.prog Rows.readJoinsRow.laid w) (_hs : s.size ≤ maxLen) (_ht : t.size ≤ maxLen) :
    Calls Tryd.prog 4 #[.string s, .string t] w fun e w' => e = .returned (.bool true) ∧ Below w.heap.size w w' := by
  obtain ⟨k, h⟩ := Go.Proofs.YthfbkhjcnfjmmaaDoor.Pure.ReadJoins s t
  exact eddywheellaw06_ReadJoins.calls k s t true w h ⟨Go.Proofs.YthfbkhjcnfjmmaaDoor.LexC.vars_of hL (by kernel_rfl) (by kernel_rfl)⟩
end Go.Proofs.YthfbkhjcnfjmmaaDoor.PReads

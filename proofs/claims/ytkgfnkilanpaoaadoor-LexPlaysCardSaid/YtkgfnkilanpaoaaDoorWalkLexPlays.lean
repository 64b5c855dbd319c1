/- The walk of LexPlays: for any text the law answers true; its premise is what the row lays. -/
import Derived.Test.YtkgfnkilanpaoaaDoorLexQ7
import Derived.Test.YtkgfnkilanpaoaaDoorLexVars
import Derived.Test.YtkgfnkilanpaoaaDoorRows
namespace Go.Proofs.YtkgfnkilanpaoaaDoor.PLexs
open Go Go.RowKit
theorem walkLexPlays (s : ByteArray) (w : World) (hL : laidMetH Tryd.prog Rows.lexPlaysRow.laid w) (_hs : s.size ≤ maxLen) :
    Calls Tryd.prog 3 #[.string s] w fun e w' => e = .returned (.bool true) ∧ Below w.heap.size w w' := by
  obtain ⟨k, h⟩ := Go.Proofs.YtkgfnkilanpaoaaDoor.Pure.LexPlays s
  exact eddywheellaw05_LexPlays.calls k s true w h ⟨Go.Proofs.YtkgfnkilanpaoaaDoor.LexC.vars_of hL (by kernel_rfl) (by kernel_rfl)⟩
end Go.Proofs.YtkgfnkilanpaoaaDoor.PLexs

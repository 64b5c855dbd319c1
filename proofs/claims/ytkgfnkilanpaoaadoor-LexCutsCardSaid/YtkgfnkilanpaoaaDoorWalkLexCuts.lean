/- The walk of LexCuts: for any text and place the law answers true; its premise is what the row lays. -/
import Derived.Test.YtkgfnkilanpaoaaDoorLexQ8
import Derived.Test.YtkgfnkilanpaoaaDoorLexVars
import Derived.Test.YtkgfnkilanpaoaaDoorRows
namespace Go.Proofs.YtkgfnkilanpaoaaDoor.PLexs
open Go Go.RowKit
theorem walkLexCuts (s : ByteArray) (a : Int) (w : World) (hL : laidMetH Tryd.prog Rows.lexCutsRow.laid w) (_hs : s.size ≤ maxLen) (ha : (Lit.int .u16 a).wf = true) :
    Calls Tryd.prog 8 #[.string s, .int .u16 a] w fun e w' => e = .returned (.bool true) ∧ Below w.heap.size w w' := by
  obtain ⟨k, h⟩ := Go.Proofs.YtkgfnkilanpaoaaDoor.Pure.LexCuts s a ha
  exact eddywheellaw05_LexCuts.calls k s a true w h ⟨Go.Proofs.YtkgfnkilanpaoaaDoor.LexC.vars_of hL (by kernel_rfl) (by kernel_rfl)⟩
end Go.Proofs.YtkgfnkilanpaoaaDoor.PLexs

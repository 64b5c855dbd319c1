/- The contracts of lex, together; no conditions. -/
import Derived.Test.YtkgfnkilanpaoaaDoorLexC3
import Derived.Test.YtkgfnkilanpaoaaDoorLexC5
namespace Go.Proofs.YtkgfnkilanpaoaaDoor.LexC
open Go Go.RowKit
end Go.Proofs.YtkgfnkilanpaoaaDoor.LexC

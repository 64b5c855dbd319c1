/- The contracts of lex, together; no conditions. -/
import Derived.Test.YthfbkhjcnfjmmaaDoorLexC3
import Derived.Test.YthfbkhjcnfjmmaaDoorLexC5
namespace Go.Proofs.YthfbkhjcnfjmmaaDoor.LexC
open Go Go.RowKit
end Go.Proofs.YthfbkhjcnfjmmaaDoor.LexC

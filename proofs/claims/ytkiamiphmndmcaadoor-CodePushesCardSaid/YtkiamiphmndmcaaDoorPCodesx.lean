-- Written by xprint.py (a program of the prover's) over the kit's printer.
import Derived.Test.YtkiamiphmndmcaaDoorPCodesx0
import Derived.Test.YtkiamiphmndmcaaDoorPCodesx1
import Derived.Test.YtkiamiphmndmcaaDoorPCodesx2
import Derived.Test.YtkiamiphmndmcaaDoorPCodesx3
import Derived.Test.YtkiamiphmndmcaaDoorPCodesx4
import Derived.Test.YtkiamiphmndmcaaDoorPCodesx5
namespace Go.Proofs.YtkiamiphmndmcaaDoor.PCodes
open Go.RowKit Go.Proofs.YtkiamiphmndmcaaDoorW.PrintWords Go.Proofs.YtkiamiphmndmcaaDoorW.PrintLast Go.Proofs.YtkiamiphmndmcaaDoorW.PrintMore
attribute [local go_sem] max2_int min2_int max_two min_two max_three min_three max_four min_four   -- for this text's walks alone
set_option linter.unusedVariables false
set_option linter.unusedSimpArgs false

end Go.Proofs.YtkiamiphmndmcaaDoor.PCodes

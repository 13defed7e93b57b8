-- Written by a program of this repo (wip/pprint.py) over the kit's print; it is no print of the kit's own.
import Derived.Test.YtkfgkefkmofdcaaPVx0
import Derived.Test.YtkfgkefkmofdcaaPVx1
import Derived.Test.YtkfgkefkmofdcaaPVx2
import Derived.Test.YtkfgkefkmofdcaaPVx3
import Derived.Test.YtkfgkefkmofdcaaPVx4
namespace Go.Proofs.Ytkfgkefkmofdcaa.PV
open Go.Proofs.Ytkfgkefkmofdcaa.Man
open Go.RowKit Go.Proofs.YtkfgkefkmofdcaaW.PrintWords Go.Proofs.YtkfgkefkmofdcaaW.PrintLast Go.Proofs.YtkfgkefkmofdcaaW.PrintMore
attribute [local go_sem] max2_int min2_int max_two min_two max_three min_three max_four min_four   -- for this text's walks alone
set_option linter.unusedVariables false
set_option linter.unusedSimpArgs false

end Go.Proofs.Ytkfgkefkmofdcaa.PV

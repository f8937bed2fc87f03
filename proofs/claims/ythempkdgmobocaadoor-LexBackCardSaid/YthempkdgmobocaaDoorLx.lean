-- Written by myprint.py, a program of the session's own, out of the translation. Lean checks it.
import Derived.Test.YthempkdgmobocaaDoorLx0
import Derived.Test.YthempkdgmobocaaDoorLx1
import Derived.Test.YthempkdgmobocaaDoorLx2
import Derived.Test.YthempkdgmobocaaDoorLx3
import Derived.Test.YthempkdgmobocaaDoorLx4
namespace Go.Proofs.YthempkdgmobocaaDoor.L
open Go.RowKit Go.Proofs.YthempkdgmobocaaDoorX Go.Proofs.YthempkdgmobocaaDoorE Go.Proofs.YthempkdgmobocaaDoorW.PrintWords Go.Proofs.YthempkdgmobocaaDoorW.PrintLast Go.Proofs.YthempkdgmobocaaDoorW.PrintMore
attribute [local go_sem] max2_int min2_int max_two min_two max_three min_three max_four min_four   -- for this text's walks alone
attribute [local go_sem] cell_again map_some'
set_option linter.unusedVariables false
set_option linter.unusedSimpArgs false

end Go.Proofs.YthempkdgmobocaaDoor.L

-- by myprint.py (NOTES.md): the machine side, out of Lean's own print of the program
import Derived.Test.YtehmolbalfefjaaQx0
namespace Go.Proofs.Ytehmolbalfefjaa.Q
open Go.RowKit Go.Proofs.YtehmolbalfefjaaW.PrintWords Go.Proofs.YtehmolbalfefjaaW.PrintLast Go.Proofs.YtehmolbalfefjaaW.PrintMore
attribute [local go_sem] max2_int min2_int max_two min_two max_three min_three max_four min_four   -- for this text's walks alone
set_option linter.unusedVariables false
set_option linter.unusedSimpArgs false

-- NOT PRINTED: function 6 (camshaftlaw13_CeilWaits)

-- NOT PRINTED: function 7 (camshaftlaw13_CeilOrders)

-- NOT PRINTED: function 8 (camshaftlaw13_CeilLong)

-- NOT PRINTED: function 9 (camshaftlaw13_CeilAlone)

end Go.Proofs.Ytehmolbalfefjaa.Q

-- by myprint.py (NOTES.md): the machine side, out of Lean's own print of the program
import Derived.Test.YtehmolbalfefjaaQx0
import Derived.Test.YtehmolbalfefjaaQx1
import Derived.Test.YtehmolbalfefjaaQx2
import Derived.Test.YtehmolbalfefjaaQx3
import Derived.Test.YtehmolbalfefjaaQx4
import Derived.Test.YtehmolbalfefjaaQx5
import Derived.Test.YtehmolbalfefjaaQx6
import Derived.Test.YtehmolbalfefjaaQx7
import Derived.Test.YtehmolbalfefjaaQx8
import Derived.Test.YtehmolbalfefjaaQx9
import Derived.Test.YtehmolbalfefjaaQx10
import Derived.Test.YtehmolbalfefjaaQx11
import Derived.Test.YtehmolbalfefjaaQx12
namespace Go.Proofs.Ytehmolbalfefjaa.Q
open Go.RowKit Go.Proofs.YtehmolbalfefjaaW.PrintWords Go.Proofs.YtehmolbalfefjaaW.PrintLast Go.Proofs.YtehmolbalfefjaaW.PrintMore
attribute [local go_sem] max2_int min2_int max_two min_two max_three min_three max_four min_four   -- for this text's walks alone
set_option linter.unusedVariables false
set_option linter.unusedSimpArgs false

end Go.Proofs.Ytehmolbalfefjaa.Q

-- Laid by the kit's print over bodies of the prover's own for a few functions
import Derived.Test.YtigchloekolaoaaPEventOwnx0
import Derived.Test.YtigchloekolaoaaPEventOwnx1
import Derived.Test.YtigchloekolaoaaPEventOwnx2
import Derived.Test.YtigchloekolaoaaPEventOwnx3
import Derived.Test.YtigchloekolaoaaPEventOwnx4
import Derived.Test.YtigchloekolaoaaPEventOwnx5
import Derived.Test.YtigchloekolaoaaPEventOwnx6
import Derived.Test.YtigchloekolaoaaPEventOwnx7
import Derived.Test.YtigchloekolaoaaPEventOwnx8
namespace Go.Proofs.Ytigchloekolaoaa.PEventOwn
open Go.RowKit Go.Proofs.YtigchloekolaoaaW.PrintWords Go.Proofs.YtigchloekolaoaaW.PrintLast Go.Proofs.YtigchloekolaoaaW.PrintMore
attribute [local go_sem] max2_int min2_int max_two min_two max_three min_three max_four min_four   -- for this text's walks alone
set_option linter.unusedVariables false
set_option linter.unusedSimpArgs false

end Go.Proofs.Ytigchloekolaoaa.PEventOwn

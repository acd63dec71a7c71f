-- Laid by the kit's print over bodies of the prover's own for a few functions
import Derived.Test.YtigchloekolaoaaPEventTellsx0
import Derived.Test.YtigchloekolaoaaPEventTellsx1
import Derived.Test.YtigchloekolaoaaPEventTellsx2
import Derived.Test.YtigchloekolaoaaPEventTellsx3
import Derived.Test.YtigchloekolaoaaPEventTellsx4
import Derived.Test.YtigchloekolaoaaPEventTellsx5
import Derived.Test.YtigchloekolaoaaPEventTellsx6
import Derived.Test.YtigchloekolaoaaPEventTellsx7
import Derived.Test.YtigchloekolaoaaPEventTellsx8
import Derived.Test.YtigchloekolaoaaPEventTellsx9
import Derived.Test.YtigchloekolaoaaPEventTellsx11
import Derived.Test.YtigchloekolaoaaPEventTellsx12
import Derived.Test.YtigchloekolaoaaPEventTellsx13
namespace Go.Proofs.Ytigchloekolaoaa.PEventTells
open Go.RowKit Go.Proofs.YtigchloekolaoaaW.PrintWords Go.Proofs.YtigchloekolaoaaW.PrintLast Go.Proofs.YtigchloekolaoaaW.PrintMore
attribute [local go_sem] max2_int min2_int max_two min_two max_three min_three max_four min_four   -- for this text's walks alone
set_option linter.unusedVariables false
set_option linter.unusedSimpArgs false

end Go.Proofs.Ytigchloekolaoaa.PEventTells

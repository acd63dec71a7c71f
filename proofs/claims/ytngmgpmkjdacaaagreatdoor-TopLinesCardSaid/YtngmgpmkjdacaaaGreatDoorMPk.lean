/-
 Pieces of the run of alive().
-/
import Derived.Test.YtngmgpmkjdacaaaGreatDoorMLit
set_option linter.unusedSimpArgs false
set_option linter.unusedVariables false
namespace Go.Eng
open Go Go.Proofs
set_option maxRecDepth 1000000 in
theorem r30 : runK T2 4520 [1, 8, 9, 10, 11, 482, 823, 1163, 1195, 1211, 1335, 1338, 1342, 2028, 2129, 2194, 2224, 2230, 2238, 2240, 2248, 2250, 2263, 2308, 2322, 2350, 2351, 2352, 2353, 2354, 2355, 2356, 2357, 2358, 2359, 2363, 2408, 2414, 2417] c30 = some c31 := by kernel_rfl
end Go.Eng

/-
 Pieces of the run of alive().
-/
import Derived.Test.YtngmgpmkjdacaaaGreatDoorMLit
set_option linter.unusedSimpArgs false
set_option linter.unusedVariables false
namespace Go.Eng
open Go Go.Proofs
set_option maxRecDepth 1000000 in
theorem r3 : runK T2 3280 [1, 8, 9, 10, 11, 13, 26, 71, 85, 113, 190, 191, 192, 194, 198, 243, 287, 291, 336, 342, 343, 352, 358] c3 = some c4 := by kernel_rfl
set_option maxRecDepth 1000000 in
theorem r4 : runK T2 3680 [1, 8, 9, 10, 11, 13, 26, 71, 85, 113, 190, 381, 382, 383, 385, 389] c4 = some c5 := by kernel_rfl
set_option maxRecDepth 1000000 in
theorem r5 : runK T2 3000 [1, 8, 9, 10, 11, 482] c5 = some c6 := by kernel_rfl
end Go.Eng

/-
 Pieces of the run of alive().
-/
import Derived.Test.YtngmgpmkjdacaaaGreatDoorMLit
set_option linter.unusedSimpArgs false
set_option linter.unusedVariables false
namespace Go.Eng
open Go Go.Proofs
set_option maxRecDepth 1000000 in
theorem r0 : runK T2 4000 [1, 8, 9, 10, 11, 13, 26, 71, 85, 113] c0 = some c1 := by kernel_rfl
set_option maxRecDepth 1000000 in
theorem r1 : runK T2 3000 [1, 8, 9, 10, 11, 13, 26, 71, 85, 113, 190, 191, 192, 194, 195, 196] c1 = some c2 := by kernel_rfl
set_option maxRecDepth 1000000 in
theorem r2 : runK T2 4160 [1, 8, 9, 10, 11, 13, 26, 71, 85, 113, 190, 191, 192, 194, 198, 243, 287] c2 = some c3 := by kernel_rfl
end Go.Eng

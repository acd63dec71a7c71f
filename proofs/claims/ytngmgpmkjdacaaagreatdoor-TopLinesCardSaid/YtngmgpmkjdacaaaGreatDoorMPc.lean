/-
 Pieces of the run of alive().
-/
import Derived.Test.YtngmgpmkjdacaaaGreatDoorMLit
set_option linter.unusedSimpArgs false
set_option linter.unusedVariables false
namespace Go.Eng
open Go Go.Proofs
set_option maxRecDepth 1000000 in
theorem r6 : runK T2 3880 [1, 8, 9, 10, 11, 482, 495, 540, 554, 582] c6 = some c7 := by kernel_rfl
set_option maxRecDepth 1000000 in
theorem r7 : runK T2 3480 [1, 8, 9, 10, 11, 482, 495, 540, 554, 582, 583, 584, 585, 587, 588] c7 = some c8 := by kernel_rfl
set_option maxRecDepth 1000000 in
theorem r8 : runK T2 4520 [1, 8, 9, 10, 11, 482, 495, 540, 554, 582, 583, 584, 585, 734, 735, 782, 815, 816] c8 = some c9 := by kernel_rfl
end Go.Eng

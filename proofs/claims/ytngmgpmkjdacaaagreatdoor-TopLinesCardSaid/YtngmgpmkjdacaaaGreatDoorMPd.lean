/-
 Pieces of the run of alive().
-/
import Derived.Test.YtngmgpmkjdacaaaGreatDoorMLit
set_option linter.unusedSimpArgs false
set_option linter.unusedVariables false
namespace Go.Eng
open Go Go.Proofs
set_option maxRecDepth 1000000 in
theorem r9 : runK T2 4360 [1, 8, 9, 10, 11, 482, 495, 540, 554, 582, 583, 584, 585, 734, 735, 782, 815, 816, 817, 818, 820, 821] c9 = some c10 := by kernel_rfl
set_option maxRecDepth 1000000 in
theorem r10 : runK T2 3520 [1, 8, 9, 10, 11, 482, 495, 540, 554, 582, 583, 584, 585, 734, 735, 782, 815, 816, 817, 818, 820, 821] c10 = some c11 := by kernel_rfl
set_option maxRecDepth 1000000 in
theorem r11 : runK T2 4520 [1, 8, 9, 10, 11, 482, 823, 824, 825, 897] c11 = some c12 := by kernel_rfl
end Go.Eng

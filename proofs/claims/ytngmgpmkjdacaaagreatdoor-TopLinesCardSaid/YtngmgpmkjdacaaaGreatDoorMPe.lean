/-
 Pieces of the run of alive().
-/
import Derived.Test.YtngmgpmkjdacaaaGreatDoorMLit
set_option linter.unusedSimpArgs false
set_option linter.unusedVariables false
namespace Go.Eng
open Go Go.Proofs
set_option maxRecDepth 1000000 in
theorem r12 : runK T2 4200 [1, 8, 9, 10, 11, 482, 823, 824, 825, 1017] c12 = some c13 := by kernel_rfl
set_option maxRecDepth 1000000 in
theorem r13 : runK T2 3000 [1, 8, 9, 10, 11, 482, 823, 824, 825, 1101] c13 = some c14 := by kernel_rfl
set_option maxRecDepth 1000000 in
theorem r14 : runK T2 4080 [1, 8, 9, 10, 11, 482, 823, 824, 825, 1102, 1103, 1104, 1105, 1106, 1116, 1117, 1118, 1119, 1120, 1121, 1122, 1123, 1124, 1126, 1127, 1128, 1129, 1130, 1131, 1132, 1163] c14 = some c15 := by kernel_rfl
end Go.Eng

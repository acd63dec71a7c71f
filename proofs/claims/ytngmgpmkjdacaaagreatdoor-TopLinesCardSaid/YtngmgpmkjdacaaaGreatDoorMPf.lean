/-
 Pieces of the run of alive().
-/
import Derived.Test.YtngmgpmkjdacaaaGreatDoorMLit
set_option linter.unusedSimpArgs false
set_option linter.unusedVariables false
namespace Go.Eng
open Go Go.Proofs
set_option maxRecDepth 1000000 in
theorem r15 : runK T2 4160 [1, 8, 9, 10, 11, 482, 823, 824, 825, 1163, 1195, 1211, 1214] c15 = some c16 := by kernel_rfl
set_option maxRecDepth 1000000 in
theorem r16 : runK T2 3000 [1, 8, 9, 10, 11, 482, 823, 824, 825, 1163, 1195, 1211, 1215, 1288, 1289, 1290, 1291, 1292, 1302, 1303, 1304, 1305] c16 = some c17 := by kernel_rfl
set_option maxRecDepth 1000000 in
theorem r17 : runK T2 3200 [1, 8, 9, 10, 11, 482, 823, 1163, 1195, 1211, 1335, 1338, 1342, 1345, 1346, 1359] c17 = some c18 := by kernel_rfl
end Go.Eng

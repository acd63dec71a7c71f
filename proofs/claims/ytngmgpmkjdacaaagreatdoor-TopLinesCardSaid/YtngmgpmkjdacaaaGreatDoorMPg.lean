/-
 Pieces of the run of alive().
-/
import Derived.Test.YtngmgpmkjdacaaaGreatDoorMLit
set_option linter.unusedSimpArgs false
set_option linter.unusedVariables false
namespace Go.Eng
open Go Go.Proofs
set_option maxRecDepth 1000000 in
theorem r18 : runK T2 3840 [1, 8, 9, 10, 11, 482, 823, 1163, 1195, 1211, 1335, 1338, 1342, 1345, 1346, 1490] c18 = some c19 := by kernel_rfl
set_option maxRecDepth 1000000 in
theorem r19 : runK T2 3120 [1, 8, 9, 10, 11, 482, 823, 1163, 1195, 1211, 1335, 1338, 1342, 1345, 1346, 1594] c19 = some c20 := by kernel_rfl
set_option maxRecDepth 1000000 in
theorem r20 : runK T2 3880 [1, 8, 9, 10, 11, 482, 823, 1163, 1195, 1211, 1335, 1338, 1342, 1345, 1346, 1724] c20 = some c21 := by kernel_rfl
end Go.Eng

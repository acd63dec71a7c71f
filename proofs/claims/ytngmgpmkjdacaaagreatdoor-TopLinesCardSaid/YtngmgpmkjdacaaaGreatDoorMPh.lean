/-
 Pieces of the run of alive().
-/
import Derived.Test.YtngmgpmkjdacaaaGreatDoorMLit
set_option linter.unusedSimpArgs false
set_option linter.unusedVariables false
namespace Go.Eng
open Go Go.Proofs
set_option maxRecDepth 1000000 in
theorem r21 : runK T2 4280 [1, 8, 9, 10, 11, 482, 823, 1163, 1195, 1211, 1335, 1338, 1342, 1345, 1346, 1867] c21 = some c22 := by kernel_rfl
set_option maxRecDepth 1000000 in
theorem r22 : runK T2 3480 [1, 8, 9, 10, 11, 482, 823, 1163, 1195, 1211, 1335, 1338, 1342, 1345, 1346, 1907, 1908, 1909, 1910, 1911, 1919, 1924, 1925, 1926, 1927, 1934] c22 = some c23 := by kernel_rfl
set_option maxRecDepth 1000000 in
theorem r23 : runK T2 3000 [1, 8, 9, 10, 11, 482, 823, 1163, 1195, 1211, 1335, 1338, 1342, 1345, 1346, 1907, 1908, 1909, 1910, 1911, 1919, 1924, 1925, 1926, 1927, 1934] c23 = some c24 := by kernel_rfl
end Go.Eng

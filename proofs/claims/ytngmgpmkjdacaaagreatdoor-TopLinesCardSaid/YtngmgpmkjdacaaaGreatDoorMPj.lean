/-
 Pieces of the run of alive().
-/
import Derived.Test.YtngmgpmkjdacaaaGreatDoorMLit
set_option linter.unusedSimpArgs false
set_option linter.unusedVariables false
namespace Go.Eng
open Go Go.Proofs
set_option maxRecDepth 1000000 in
theorem r27 : runK T2 4600 [1, 8, 9, 10, 11, 482, 823, 1163, 1195, 1211, 1335, 1338, 1342, 1345, 1346, 1907, 1908, 1909, 1910, 1911, 1919, 1924, 1925, 1926, 1927, 1934, 1940, 1941, 1942, 1943, 1944, 1946, 1947, 1948, 1953, 1954, 1955, 1956, 1958, 2009, 2027, 2028, 2086, 2087, 2111, 2112] c27 = some c28 := by kernel_rfl
set_option maxRecDepth 1000000 in
theorem r28 : runK T2 3640 [1, 8, 9, 10, 11, 482, 823, 1163, 1195, 1211, 1335, 1338, 1342, 1345, 1346, 1907, 1908, 1909, 1910, 1911, 1919, 1924, 1925, 1926, 1927, 1934, 1940, 1941, 1942, 1943, 1944, 1946, 1947, 1948, 1953, 1954, 2028, 2129, 2138, 2139, 2140, 2141, 2143, 2166, 2193, 2194] c28 = some c29 := by kernel_rfl
set_option maxRecDepth 1000000 in
theorem r29 : runK T2 4600 [1, 8, 9, 10, 11, 482, 823, 1163, 1195, 1211, 1335, 1338, 1342, 2028, 2129, 2194, 2224, 2230, 2238, 2240, 2248, 2250, 2251, 2252, 2253, 2254, 2255, 2256, 2257, 2258, 2259, 2260, 2261, 2263, 2268, 2271] c29 = some c30 := by kernel_rfl
end Go.Eng

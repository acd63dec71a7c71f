/-
 Pieces of the run of alive().
-/
import Derived.Test.YtngmgpmkjdacaaaGreatDoorMLit
set_option linter.unusedSimpArgs false
set_option linter.unusedVariables false
namespace Go.Eng
open Go Go.Proofs
set_option maxRecDepth 1000000 in
theorem r24 : runK T2 3520 [1, 8, 9, 10, 11, 482, 823, 1163, 1195, 1211, 1335, 1338, 1342, 1345, 1346, 1907, 1908, 1909, 1910, 1911, 1919, 1924, 1925, 1926, 1927, 1934] c24 = some c25 := by kernel_rfl
set_option maxRecDepth 1000000 in
theorem r25 : runK T2 3920 [1, 8, 9, 10, 11, 482, 823, 1163, 1195, 1211, 1335, 1338, 1342, 1345, 1346, 1907, 1908, 1909, 1910, 1911, 1919, 1924, 1925, 1926, 1927, 1934, 1940, 1941, 1942, 1943, 1944, 1946, 1947, 1948, 1953, 1954, 1955, 1956, 1958, 1981] c25 = some c26 := by kernel_rfl
set_option maxRecDepth 1000000 in
theorem r26 : runK T2 3320 [1, 8, 9, 10, 11, 482, 823, 1163, 1195, 1211, 1335, 1338, 1342, 1345, 1346, 1907, 1908, 1909, 1910, 1911, 1919, 1924, 1925, 1926, 1927, 1934, 1940, 1941, 1942, 1943, 1944, 1946, 1947, 1948, 1953, 1954, 1955, 1956, 1958, 1981, 2009, 2027, 2028] c26 = some c27 := by kernel_rfl
end Go.Eng

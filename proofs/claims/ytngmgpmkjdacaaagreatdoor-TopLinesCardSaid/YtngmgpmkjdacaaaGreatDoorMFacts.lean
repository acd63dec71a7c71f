/-
 The closed facts of the row of TopLines, each by the kernel.
-/
import Derived.Test.YtngmgpmkjdacaaaGreatDoorRows
import Derived.JoinedOf
set_option linter.unusedSimpArgs false
set_option linter.unusedVariables false
namespace Go.Proofs.YtngmgpmkjdacaaaGreatDoor
set_option maxRecDepth 100000

theorem laidOut : laidOutB Tryz.prog = true := by kernel_rfl
set_option maxHeartbeats 4000000 in
theorem closed : joinedFacts Tryz.prog 3 Tryz.f3 Rows.topLinesSpec Rows.topLinesRow = true := by
 simp only [joinedFacts, Bool.and_eq_true]
 with_reducible repeat' apply And.intro
 all_goals as_aux_lemma => kernel_rfl
end Go.Proofs.YtngmgpmkjdacaaaGreatDoor

/-
 How many bytes are of a class: told by runs.
-/
import Derived.Test.YtngmgpmkjdacaaaGreatDoorMIs
set_option linter.unusedSimpArgs false
set_option linter.unusedVariables false
namespace Go.Eng
open Go Go.Proofs

def countK : Nat → Nat
 | 1 => 65 | 2 => 66 | 3 => 92 | 4 => 10 | _ => 0
def numsIs (o : Option AV) (a b : Nat) : Bool := match o with
 | some (.tup [.at (.int .i64 (.ofNat x)), .at (.int .i64 (.ofNat y))]) => Nat.beq x a && Nat.beq y b
 | _ => false
theorem numsIs_get {o : Option AV} {a b : Nat} (h : numsIs o a b = true) : o = some (.tup [.at (.int .i64 (.ofNat a)), .at (.int .i64 (.ofNat b))]) := by
 unfold numsIs at h
 split at h
 ·simp only [Bool.and_eq_true] at h
  rw [Nat.eq_of_beq_eq_true h.1, Nat.eq_of_beq_eq_true h.2]
 ·cases h
set_option maxRecDepth 1000000 in
theorem count_1 : numsIs (outA T1 275 [.at (.int .i64 (.ofNat 1))] 9000) 65 0 = true := by kernel_rfl
set_option maxRecDepth 1000000 in
theorem count_2 : numsIs (outA T1 275 [.at (.int .i64 (.ofNat 2))] 9000) 66 0 = true := by kernel_rfl
set_option maxRecDepth 1000000 in
theorem count_3 : numsIs (outA T1 275 [.at (.int .i64 (.ofNat 3))] 9000) 92 0 = true := by kernel_rfl
set_option maxRecDepth 1000000 in
theorem count_4 : numsIs (outA T1 275 [.at (.int .i64 (.ofNat 4))] 9000) 10 0 = true := by kernel_rfl
end Go.Eng

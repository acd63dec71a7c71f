/-
 The statement TopLines, for every input: the call returns true and its arguments read as before; no condition but the card's own (the listed variables as the program's text lays them).
-/
import Derived.Test.YtngmgpmkjdacaaaGreatDoorTie
import Derived.Test.YtngmgpmkjdacaaaGreatDoorCards
import Derived.Test.YtngmgpmkjdacaaaGreatDoorMLaid
import Derived.Test.YtngmgpmkjdacaaaGreatDoorMFacts
import Derived.SevenTiedAt
import Derived.Stop.Joined
set_option linter.unusedSimpArgs false
set_option linter.unusedVariables false
namespace Go.Proofs.YtngmgpmkjdacaaaGreatDoor

theorem over : Rows.TopLinesSaid :=
 OpenClaim.holds_of_wide 3 Tryz.f3 rfl rfl rfl rfl rfl rfl rfl ⟨rfl, rfl, rfl, rfl, rfl⟩ rfl rfl rfl rfl rfl (by kernel_rfl) Tryz.func3 closed
  (of_decide_eq_true (by kernel_rfl)) (by unfold Func.isWrapper; first | (rw [if_pos (by decide +kernel)]; kernel_rfl) | (rw [if_neg (by decide +kernel)]; exact ⟨rfl, rfl⟩))
  (fun os started H enc _ => lifted os started H enc)

/-- The statement. -/
theorem topLines_proved : Rows.TopLinesCardSaid :=
 Claim7.holds_tied_plain_at .later [] [.data, .data, .data, .data, .sentinel, .sentinel, .pinned] true (true, "19e9a9c1f2c7ff8e1e689f38ada7762f580d82d31af1715b02019bf032da0206") true
  over (fun _ h => by cases h) (by kernel_rfl) (fun _ h => by cases h) topLines_row_tie rfl ⟨rfl, rfl⟩ (by kernel_rfl) rfl
  (fun f fn hf hfn => by
   obtain rfl : f = 3 := Option.some.inj ((show Tryz.prog.funcNamed "forebay/forebaytop.TopLines" = some 3 by kernel_rfl).symm.trans hf) |>.symm
   obtain rfl : fn = Tryz.f3 := (Option.some.inj (Tryz.func3.symm.trans hfn)).symm
   exact ⟨by kernel_rfl, fun j t ht => by
    rw [Tryz.params3] at ht
    have hm : t ∈ [23, 22, 3] := by simpa using Array.mem_of_getElem? ht
    have hall : ([23, 22, 3].all fun u => !Tryz.prog.wantsStandIn u) = true := by kernel_rfl
    exact (show Tryz.prog.wantsStandIn t = false by simpa using List.all_eq_true.1 hall t hm)⟩)
  (by kernel_rfl)
#print axioms topLines_proved
end Go.Proofs.YtngmgpmkjdacaaaGreatDoor

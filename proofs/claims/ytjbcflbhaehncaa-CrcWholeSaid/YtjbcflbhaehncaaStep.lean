/-
  The walks of crc.step and forebayref14.Step: both give the step of a number of 32 bits, and leave the world as it was.
-/
import Derived.Test.YtjbcflbhaehncaaRows
import Derived.Test.YtjbcflbhaehncaaBits
import Derived.WalkKit
import Derived.WalkSpells
import Derived.WalkLawsBesides
import Derived.Lib.Hide
namespace Go.Proofs.Ytjbcflbhaehncaa
open Go.RowKit
open Crc (U U_lo U_hi)

theorem int_eq {k : IntKind} {a b : Int} (h : a = b) : Value.int k a = Value.int k b := by rw [h]
theorem ret_int {k : IntKind} {a b : Int} (h : a = b) : Ending.returned (.int k a) = .returned (.int k b) := by rw [h]

set_option maxHeartbeats 400000 in
theorem step_any (x : BitVec 32) (w : World) :
    Calls Try.prog 19 #[.int .u32 (U x)] w fun e w' => e = .returned (.int .u32 (U (Crc.step x))) ∧ w = w' := by
  have HX : Hid (Crc.halves 8 x = Crc.step x) := Lib.hid rfl
  have h0 := U_lo x
  have h1 := U_hi x
  go_enter Try.func19, Try.ntmps19
  go_wp2
  go_loop [0, 3] (fun v i => ∃ (k : Nat) (y : BitVec 32), k ≤ 8 ∧ i = .int .i64 k ∧ v = .int .u32 (U y) ∧ Hid (Crc.halves (8 - k) y = Crc.step x)) (fun _ i => 8 - (intOf i).toNat)
  case atStart => exact ⟨0, x, by omega, rfl, rfl, HX⟩
  case round =>
    obtain ⟨k, y, hk, rfl, rfl, HY⟩ := hrel
    clear HX h0 h1
    have h0 := U_lo y
    have h1 := U_hi y
    go_wp2
    · have hlt : k < 8 := by omega
      refine ⟨⟨k + 1, Crc.half y, by omega, by go_num, int_eq (Crc.half_eq y), ?_⟩, by simp [intOf]; omega⟩
      have e := HY.out
      rw [show 8 - k = (8 - (k + 1)) + 1 from by omega] at e
      exact Lib.hid e
    · have hk8 : k = 8 := by omega
      subst hk8
      go_ret
      exact ⟨ret_int (congrArg U HY.out), rfl⟩
end Go.Proofs.Ytjbcflbhaehncaa

/-
  The walk of (*crc.table).of: what a table of a linear function's values at single bits gives of a number.
-/
import Derived.Test.YtjbcflbhaehncaaSame
namespace Go.Proofs.Ytjbcflbhaehncaa
open Go.RowKit
open Crc (U U_lo U_hi bv)

/-- The 32 cells of block B are f's values at single bits. -/
def IsTab (w : World) (B : Nat) (f : BitVec 32 → BitVec 32) : Prop := ∀ j, j < 32 → w.cell? ⟨B, j, none⟩ = some (.int .u32 (U (f (1#32 <<< j))))

theorem tab_round (x y z : BitVec 32) (k : Nat) :
    bits BinOp.xor IntKind.u32 (U y) (U z * bits BinOp.and IntKind.u32 (U x / (2 : Int) ^ k) 1 % 4294967296) = U (y ^^^ (if x.getLsbD k then z else 0#32)) := by
  rw [Crc.U_shr, Crc.bits_and_one, BitVec.getLsbD_ushiftRight, Nat.add_zero]
  cases x.getLsbD k
  · simp only [Bool.false_eq_true, if_false, Int.mul_zero, Int.zero_emod]
    rw [← zero_U, Crc.bits_xor]
  · simp only [if_true, Int.mul_one]
    rw [Crc.U_wrap, Crc.bits_xor]

set_option maxHeartbeats 400000 in
theorem of_any (B : Nat) (f : BitVec 32 → BitVec 32) (hf : Crc.Lin f) (x : BitVec 32) (w : World) (ht : IsTab w B f) :
    Calls Try.prog 21 #[.pointer (some ⟨B, 0, none⟩), .int .u32 (U x)] w fun e w' => e = .returned (.int .u32 (U (f x))) ∧ ∃ n, w' = w.drewN n := by
  have HT := Lib.hid ht
  have h0 := U_lo x
  have h1 := U_hi x
  clear ht
  have HF := Lib.hid hf
  clear hf
  have H00 : Hid ((0 : Int) = U 0#32) := Lib.hid zero_U.symm
  go_enter Try.func21, Try.ntmps21
  go_wp2
  go_loopw [5, 7] (fun v i wr => ∃ (k : Nat) (y : BitVec 32), k ≤ 32 ∧ i = .int .i64 k ∧ v = .int .u32 (U y) ∧ Hid (y = Crc.tab f k x) ∧ ∃ n, wr = w.drewN n) (fun _ i _ => 32 - (intOf i).toNat)
  case atStart => exact ⟨0, 0#32, by omega, rfl, int_eq H00.out, Lib.hid rfl, 0, rfl⟩
  case round =>
    obtain ⟨k, y, hk, rfl, rfl, HY, n, rfl⟩ := hrel
    by_cases hkl : k < 32
    · have hc := HT.out k hkl
      obtain ⟨z, hz⟩ : ∃ z, z = f (1#32 <<< k) := ⟨_, rfl⟩
      rw [← hz] at hc
      have HZ := Lib.hid hz
      clear hz
      have y0 := U_lo y
      have y1 := U_hi y
      have z0 := U_lo z
      have z1 := U_hi z
      have hki : (k : Int) < 32 := by omega
      go_wp2_with fail
      go_quiet (fail)
      go_wp2
      go_roundw
      case rel => exact ⟨k + 1, _, by omega, by go_num, int_eq (tab_round x y z k), Lib.hid (by rw [Crc.tab, ← HY.out, ← HZ.out]), _, rfl⟩
      case measure => simp [intOf]; omega
    · have hkl' : k = 32 := by omega
      subst hkl'
      go_wp2
      go_ret
      exact ⟨ret_int (by rw [HY.out, Crc.tab_all f HF.out]), _, rfl⟩
end Go.Proofs.Ytjbcflbhaehncaa

/-
  Numbers of 32 bits as the model holds them, and what its bit operations give of them.
-/
import Derived.Test.YtjbcflbhaehncaaMath
import Derived.WalkKit
namespace Go.Proofs.Ytjbcflbhaehncaa.Crc
/-- A number of 32 bits, as the model holds it. -/
def U (x : BitVec 32) : Int := (x.toNat : Int)
theorem U_lo (x : BitVec 32) : 0 ≤ U x := Int.natCast_nonneg _
theorem U_hi (x : BitVec 32) : U x < 4294967296 := by have := x.isLt; unfold U; omega
theorem U_wrap (x : BitVec 32) : U x % 4294967296 = U x := Int.emod_eq_of_lt (U_lo x) (U_hi x)
theorem ofInt_U (x : BitVec 32) : BitVec.ofInt 32 (U x) = x := by
  unfold U; rw [BitVec.ofInt_natCast]; simp
theorem U_inj {x y : BitVec 32} (h : U x = U y) : x = y := by rw [← ofInt_U x, h, ofInt_U]
theorem U_ofInt (z : Int) (h0 : 0 ≤ z) (h1 : z < 4294967296) : U (BitVec.ofInt 32 z) = z := by
  obtain ⟨n, rfl⟩ := Int.eq_ofNat_of_zero_le h0
  unfold U
  rw [BitVec.ofInt_natCast, BitVec.toNat_ofNat]
  congr 1
  omega
theorem bits_xor (x y : BitVec 32) : bits .xor .u32 (U x) (U y) = U (x ^^^ y) := by
  show IntKind.u32.wrap ((BitVec.ofInt 32 (U x) ^^^ BitVec.ofInt 32 (U y)).toNat : Int) = _
  rw [ofInt_U, ofInt_U, IntKind.wrap_u32]
  exact U_wrap _
theorem bits_and (x y : BitVec 32) : bits .and .u32 (U x) (U y) = U (x &&& y) := by
  show IntKind.u32.wrap ((BitVec.ofInt 32 (U x) &&& BitVec.ofInt 32 (U y)).toNat : Int) = _
  rw [ofInt_U, ofInt_U, IntKind.wrap_u32]
  exact U_wrap _
theorem U_shr (x : BitVec 32) (k : Nat) : U x / (2 : Int) ^ k = U (x >>> k) := by
  unfold U
  rw [BitVec.toNat_ushiftRight, Nat.shiftRight_eq_div_pow, Int.natCast_ediv]
  simp
theorem U_one : U 1#32 = 1 := rfl
theorem and_one (x : BitVec 32) : x &&& 1#32 = if x.getLsbD 0 then 1#32 else 0#32 := by
  apply BitVec.eq_of_getLsbD_eq
  intro i hi
  rw [BitVec.getLsbD_and, BitVec.getLsbD_one]
  cases i with
  | zero => cases x.getLsbD 0 <;> simp
  | succ i => cases x.getLsbD 0 <;> simp
theorem bits_and_one (x : BitVec 32) : bits .and .u32 (U x) 1 = if x.getLsbD 0 then 1 else 0 := by
  rw [← U_one, bits_and, and_one]
  cases x.getLsbD 0 <;> rfl
theorem half_eq (x : BitVec 32) : bits .xor .u32 (U x / 2) (bits .and .u32 (U x) 1 * 3988292384 % 4294967296) = U (half x) := by
  have h2 : U x / (2 : Int) = U (x >>> 1) := U_shr x 1
  have hm : bits .and .u32 (U x) 1 * 3988292384 % 4294967296 = U (if x.getLsbD 0 then poly else 0#32) := by
    rw [bits_and_one]
    cases x.getLsbD 0 <;> rfl
  rw [h2, hm, bits_xor]; rfl
attribute [irreducible] U
end Go.Proofs.Ytjbcflbhaehncaa.Crc

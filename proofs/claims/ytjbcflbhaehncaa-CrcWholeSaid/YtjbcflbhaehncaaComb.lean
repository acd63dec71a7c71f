/-
  The walk of crc.Combine: below 0 a range error, else n steps of the first number, xor the second.
-/
import Derived.Test.YtjbcflbhaehncaaTwice
namespace Go.Proofs.Ytjbcflbhaehncaa
open Go.RowKit
open Crc (U U_lo U_hi bv)

def Combined (w : World) (x : BitVec 32) (e : Ending) (w' : World) : Prop :=
  e = .returned (.tuple #[.int .u32 (U x), .int .i64 0]) ∧ Below w.heap.size w w'

theorem U_bit (k : Nat) (hk : k < 32) : (2 : Int) ^ k % 4294967296 = U (1#32 <<< k) := by
  have h : ∀ k : Nat, k < 32 → (2 : Int) ^ k % 4294967296 = (((1#32 <<< k).toNat : Nat) : Int) := by decide
  unfold U
  exact h k hk

theorem steps_twice (k : Nat) : (fun x => Crc.steps (2 ^ k) (Crc.steps (2 ^ k) x)) = Crc.steps (2 ^ (k + 1)) := by
  funext x
  rw [show 2 ^ (k + 1) = 2 ^ k + 2 ^ k from by rw [Nat.pow_succ]; omega, Crc.steps_add]

theorem steps_one : Crc.step = Crc.steps (2 ^ 0) := rfl

/-- A round of the powers: the bit is 0. -/
theorem even_round (k m m' : Nat) (x : BitVec 32) (hm : m = 2 * m') : Crc.steps (2 ^ (k + 1) * m') x = Crc.steps (2 ^ k * m) x := by
  congr 1; subst hm; rw [Nat.pow_succ, Nat.mul_assoc]

/-- A round of the powers: the bit is 1. -/
theorem odd_round (k m m' : Nat) (x : BitVec 32) (hm : m = 2 * m' + 1) : Crc.steps (2 ^ (k + 1) * m') (Crc.steps (2 ^ k) x) = Crc.steps (2 ^ k * m) x := by
  rw [← Crc.steps_add]
  congr 1; subst hm
  rw [Nat.pow_succ, Nat.mul_add, Nat.mul_one, Nat.mul_assoc, Nat.add_comm]

theorem and_one_i64 (m : Nat) (hm : m < 9223372036854775808) : bits .and .i64 (m : Int) 1 = (m : Int) % 2 := by
  have := bits_mask .i64 63 (by decide) (fun n h0 h1 => by rw [IntKind.wrap_i64]; omega) 1 (by decide) (m : Int) (by omega) (by omega)
  simpa using this

set_option maxHeartbeats 400000 in
theorem combine_neg (a b : BitVec 32) (n : Int) (hn : n < 0) (w : World) :
    Calls Try.prog 16 #[.int .u32 (U a), .int .u32 (U b), .int .i64 n] w fun e w' => e = .returned (.tuple #[.int .u32 0, .int .i64 10]) ∧ w = w' := by
  go_enter Try.func16, Try.ntmps16
  go_wp2
  go_ret2
  exact ⟨rfl, rfl⟩

set_option maxHeartbeats 1000000 in
theorem combine_pos (a b : BitVec 32) (n : Nat) (hn : n < 9223372036854775808) (w : World) :
    Calls Try.prog 16 #[.int .u32 (U a), .int .u32 (U b), .int .i64 n] w (Combined w (Crc.steps n a ^^^ b)) := by
  have hn0 : (0 : Int) ≤ n := by omega
  have hd0 : decide ((n : Int) < 0) = false := by simp
  have hmf : ∀ (fn : Fn) (first cap : Array Value) (w : World), (Instr.makeFunc fn first cap).run Try.prog w = .ok (.func fn first cap) w := fun _ _ _ _ => rfl
  go_enter Try.func16, Try.ntmps16
  go_wp2
  go_loopw [13] (fun i wr => ∃ (k : Nat), k ≤ 32 ∧ i = .int .i64 k ∧ TabTo wr w.heap.size k Crc.step ∧ Below w.heap.size w wr) (fun i _ => 32 - (intOf i).toNat)
  case atStart => exact ⟨0, by omega, rfl, tabTo_new w _, (Below.refl _ _).alloc (Nat.le_refl _) _⟩
  case round =>
    obtain ⟨k, hk, rfl, HU, HB⟩ := hrel
    have HU' := Lib.hid HU
    have HB' := Lib.hid HB
    clear HU HB
    have hsz : w.heap.size < wr.heap.size := HU'.out.lt
    by_cases hkl : k < 32
    · obtain ⟨vu, hcu, hfu⟩ := HU'.out.cell k hkl
      have hki : (k : Int) < 32 := by omega
      have hbit := U_bit k hkl
      go_wp2_with (go_at_call 19; refine (step_any _ _).mono ?_; rintro e w' ⟨rfl, rfl⟩)
      go_roundw
      case rel => exact ⟨k + 1, by omega, by go_num, HU'.out.set hkl, HB'.out.setCell (p := ⟨w.heap.size, k, none⟩) (Nat.le_refl _) _⟩
      case measure => simp [intOf]; omega
    · have hkl' : k = 32 := by omega
      have HU2 : Hid (TabTo wr w.heap.size 32 (Crc.steps (2 ^ 0))) := Lib.hid (by rw [← steps_one, ← hkl']; exact HU'.out)
      have hki : ¬ (k : Int) < 32 := by omega
      clear hk hkl hkl' HU'
      go_wp2
      go_loopw [0, 2] (fun va vn w2 => ∃ (k m : Nat) (x : BitVec 32), m < 9223372036854775808 ∧ vn = .int .i64 m ∧ va = .int .u32 (U x) ∧ TabTo w2 w.heap.size 32 (Crc.steps (2 ^ k)) ∧ Below w.heap.size w w2 ∧ Hid (Crc.steps (2 ^ k * m) x = Crc.steps n a)) (fun _ vn _ => (intOf vn).toNat)
      case atStart => exact ⟨0, n, a, hn, rfl, rfl, HU2.out, HB'.out, Lib.hid (by rw [Nat.pow_zero, Nat.one_mul])⟩
      case round =>
        clear hki
        obtain ⟨k, m, x, hm, rfl, rfl, HT, HB2, HX⟩ := hrel
        have HT' := Lib.hid HT
        have HB2' := Lib.hid HB2
        clear HT HB2 HB' HU2 hsz hn hn0
        by_cases hm0 : m = 0
        · subst hm0
          clear hm
          have hfin := Crc.bits_xor x b
          have hx : x = Crc.steps n a := by have := HX.out; rwa [Nat.mul_zero] at this
          have HXX := Lib.hid hx
          clear hx
          go_wp2
          go_ret2
          refine ⟨?_, HB2'.out⟩
          rw [← HXX.out]; rfl
        · obtain ⟨m', hm'⟩ : ∃ m', m' = m / 2 := ⟨_, rfl⟩
          have hq : (m : Int) / 2 = (m' : Int) := by omega
          have hpos : (0 : Int) < m := by omega
          by_cases hodd : m % 2 = 1
          · have hb : bits .and .i64 (m : Int) 1 = 1 := by rw [and_one_i64 m hm]; omega
            have HR := Lib.hid ((odd_round k m m' x (by omega)).trans HX.out)
            have HM : Hid (m' < m ∧ m < 9223372036854775808) := Lib.hid ⟨by omega, hm⟩
            clear hm' hodd hm0 hm HX
            go_wp2_with (first | (go_at_call 21; refine (of_any _ _ (Crc.steps_lin _) _ _ HT'.out.is).mono ?_; rintro e w' ⟨rfl, nq, rfl⟩) | (go_at_call 20; refine (twice_any _ _ (Crc.steps_lin (2 ^ k)) _ (HT'.out.keep (w' := wr.drewN nq) rfl)).mono ?_; rintro e w' ⟨rfl, HT2, HG2⟩; rw [steps_twice] at HT2))
            go_roundw
            case rel => exact ⟨k + 1, m', _, by have := HM.out; omega, rfl, rfl, HT2, (below_drewN' HB2'.out nq).grown HG2 HB2'.out.size (fun j e => by cases e; exact Nat.le_refl _), HR⟩
            case measure => have := HM.out; simp [intOf]; omega
          · have hb : bits .and .i64 (m : Int) 1 = 0 := by rw [and_one_i64 m hm]; omega
            have HR := Lib.hid ((even_round k m m' x (by omega)).trans HX.out)
            have HM : Hid (m' < m ∧ m < 9223372036854775808) := Lib.hid ⟨by omega, hm⟩
            clear hm' hodd hm0 hm HX
            go_wp2_with (go_at_call 20; refine (twice_any _ _ (Crc.steps_lin (2 ^ k)) _ HT'.out).mono ?_; rintro e w' ⟨rfl, HT2, HG2⟩; rw [steps_twice] at HT2)
            go_roundw
            case rel => exact ⟨k + 1, m', x, by have := HM.out; omega, rfl, rfl, HT2, HB2'.out.grown HG2 HB2'.out.size (fun j e => by cases e; exact Nat.le_refl _), HR⟩
            case measure => have := HM.out; simp [intOf]; omega
end Go.Proofs.Ytjbcflbhaehncaa

/-
  The walk of the law CrcSteps: it returns true, and writes nothing that was there.
-/
import Derived.Test.YtjbcflbhaehncaaAwake
namespace Go.Proofs.Ytjbcflbhaehncaa
open Go.RowKit
open Crc (U U_lo U_hi bv)

set_option maxHeartbeats 1000000 in
theorem crcSteps_walk (a b : BitVec 32) (n : Int) (h1 : n < 9223372036854775808) (w : World) :
    Calls Try.prog 4 #[.int .u32 (U a), .int .u32 (U b), .int .i64 n] w fun e w' => e = .returned (.bool true) ∧ Below w.heap.size w w' := by
  by_cases hbig : 500 < n
  · clear h1
    go_enter Try.func4, Try.ntmps4
    go_wp2_with fail
    refine (awake_any _).mono ?_
    rintro e w1 ⟨rfl, hb1⟩
    have HB1 := Lib.hid hb1
    clear hb1
    go_wp2
    go_ret
    exact ⟨rfl, HB1.out⟩
  · by_cases hneg : n < 0
    · have hb : n ≤ 500 := by omega
      clear hbig
      go_enter Try.func4, Try.ntmps4
      go_wp2_with fail
      refine (combine_neg _ _ _ hneg _).mono ?_
      rintro e w1 ⟨rfl, rfl⟩
      go_wp2_with fail
      refine (awake_any _).mono ?_
      rintro e w1 ⟨rfl, hb1⟩
      have HB1 := Lib.hid hb1
      clear hb1
      go_wp2
      go_ret
      exact ⟨rfl, HB1.out⟩
    · have hb : n ≤ 500 := by omega
      have h0 : 0 ≤ n := by omega
      have hd : decide (500 < n) = false := by simp; omega
      have hd2 : decide (n < 0) = false := by simp; omega
      clear hbig hneg
      go_enter Try.func4, Try.ntmps4
      go_wp2_with fail
      refine (combine_int _ _ _ h0 h1 _).mono ?_
      rintro e w1 ⟨rfl, hb1⟩
      have HB1 := Lib.hid hb1
      clear hb1
      go_wp2_with fail
      go_loop [9, 10] (fun v i => ∃ (k : Nat) (y : BitVec 32), (k : Int) ≤ n ∧ i = .int .i64 k ∧ v = .int .u32 (U y) ∧ Hid (y = Crc.steps k a)) (fun _ i => n.toNat - (intOf i).toNat)
      case atStart => exact ⟨0, a, h0, rfl, rfl, Lib.hid rfl⟩
      case round =>
        obtain ⟨k, y, hk, rfl, rfl, HY⟩ := hrel
        by_cases hkl : (k : Int) < n
        · go_wp2_with (go_at_call 17; refine (refstep_any _ _).mono ?_; rintro e w' ⟨rfl, rfl⟩)
          go_round
          case rel => exact ⟨k + 1, _, by omega, by go_num, rfl, Lib.hid (by rw [Crc.steps_snoc, ← HY.out])⟩
          case measure => simp [intOf]; omega
        · have hkn : k = n.toNat := by omega
          have hy : y = Crc.steps n.toNat a := by rw [HY.out, hkn]
          subst hy
          have hx := Crc.bits_xor (Crc.steps n.toNat a) b
          clear hkn HY
          go_wp2_with fail
          refine (awake_any _).mono ?_
          rintro e w2 ⟨rfl, hb2⟩
          have HB2 := Lib.hid (HB1.out.trans (hb2.mono HB1.out.size))
          clear hb2 HB1
          go_wp2
          go_ret
          exact ⟨rfl, HB2.out⟩
end Go.Proofs.Ytjbcflbhaehncaa

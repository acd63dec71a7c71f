/-
  The walk of the law CrcSums: it returns true, and writes nothing that was there.
-/
import Derived.Test.YtjbcflbhaehncaaAwake
namespace Go.Proofs.Ytjbcflbhaehncaa
open Go.RowKit
open Crc (U U_lo U_hi bv)

theorem Sl.byte {w : World} {a : Option Addr} {len : Nat} {l : List Int} (h : Sl w a len l) (k : Nat) : 0 ≤ l.getD k 0 ∧ l.getD k 0 < 256 := getD_byte h.2.1 k

set_option maxHeartbeats 1000000 in
theorem crcSums_walk (a : Option Addr) (len cap : Nat) (l : List Int) (s : BitVec 32) (w : World) (hs : Sl w a len l) :
    Calls Try.prog 3 #[.slice a len cap, .int .u32 (U s)] w fun e w' => e = .returned (.bool true) ∧ Below w.heap.size w w' := by
  have HS := Lib.hid hs
  clear hs
  by_cases hbig : len > 1000
  · have hb : (1000 : Int) < (len : Int) := by omega
    clear hbig
    go_enter Try.func3, Try.ntmps3
    go_wp2_with fail
    refine (awake_any _).mono ?_
    rintro e w1 ⟨rfl, hb1⟩
    have HB1 := Lib.hid hb1
    clear hb1
    go_wp2
    go_ret
    exact ⟨rfl, HB1.out⟩
  · have hb : (len : Int) ≤ 1000 := by omega
    have hm : len ≤ 140737488351232 := by omega
    clear hbig
    have hd : decide ((1000 : Int) < (len : Int)) = false := by simp; omega
    go_enter Try.func3, Try.ntmps3
    go_wp2
    go_loop [5, 6] (fun v i => ∃ (k : Nat) (y : BitVec 32), k ≤ len ∧ i = .int .i64 k ∧ v = .int .u32 (U y) ∧ Hid (y = Crc.update s (l.take k))) (fun _ i => len - (intOf i).toNat)
    case atStart => exact ⟨0, s, by omega, rfl, rfl, Lib.hid (by simp [Crc.update_nil])⟩
    case round =>
      obtain ⟨k, y, hk, rfl, rfl, HY⟩ := hrel
      by_cases hkl : k < len
      · obtain ⟨b, off, rfl, hlt, hcell0⟩ := HS.out.at k hkl
        obtain ⟨z, hz⟩ : ∃ z, z = l.getD k 0 := ⟨_, rfl⟩
        have hcell : w.cell? ⟨b, off + k, none⟩ = some (.int .u8 z) := by rw [hz]; exact hcell0
        have hz0 : 0 ≤ z := by rw [hz]; exact (HS.out.byte k).1
        have hz1 : z < 256 := by rw [hz]; exact (HS.out.byte k).2
        have HZ := Lib.hid hz; clear hz hcell0
        go_wp2_with (go_at_call 9; refine (behind_any _ _ hz0 hz1 _).mono ?_; rintro e w' ⟨rfl, rfl⟩)
        go_round
        case rel => exact ⟨k + 1, _, by omega, by go_num, rfl, Lib.hid (by rw [take_snoc (by rw [HS.out.1]; exact hkl), Crc.update_snoc, ← HY.out, HZ.out])⟩
        case measure => simp [intOf]; omega
      · have hy : y = Crc.update s l := by
          rw [HY.out, List.take_of_length_le (by rw [HS.out.1]; omega)]
        subst hy
        have hki : ¬ (k : Int) < (len : Int) := by omega
        clear HY hkl hk
        go_wp2_with fail
        refine (sum_any _ _ _ _ _ HS.out hm).mono ?_
        rintro e w' ⟨rfl, rfl⟩
        go_wp2_with fail
        refine (refsum_any _ _ _ _ _ HS.out hm).mono ?_
        rintro e w' ⟨rfl, rfl⟩
        go_wp2_with fail
        refine (update_any _ _ _ _ _ _ HS.out hm).mono ?_
        rintro e w' ⟨rfl, rfl⟩
        go_wp2_with fail
        refine (bytes_any _ _).mono ?_
        rintro e w1 ⟨a1, rfl, hs1, hb1⟩
        have HB1 := Lib.hid hb1
        clear hb1
        go_wp2_with fail
        refine (refbytes_any _ _).mono ?_
        rintro e w2 ⟨a2, rfl, hs2, hb2⟩
        have HB2 := Lib.hid (HB1.out.trans (hb2.mono HB1.out.size))
        have hs1' := hs1.below hb2
        clear hb2 hs1
        go_wp2_with fail
        refine (same_any _ _ _ _ _ _ _ _ _ hs1' hs2 (by decide)).mono ?_
        rintro e w3 ⟨rfl, hb3⟩
        have HB3 := Lib.hid (HB2.out.trans (hb3.mono HB2.out.size))
        clear hb3 hs1' hs2 HB1 HB2
        go_wp2_with fail
        refine (awake_any _).mono ?_
        rintro e w4 ⟨rfl, hb4⟩
        have HB4 := Lib.hid (HB3.out.trans (hb4.mono HB3.out.size))
        clear hb4 HB3
        go_wp2
        go_ret
        exact ⟨rfl, HB4.out⟩
end Go.Proofs.Ytjbcflbhaehncaa

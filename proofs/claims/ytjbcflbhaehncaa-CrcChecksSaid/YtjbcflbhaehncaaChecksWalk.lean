/-
  The walk of the law CrcChecks: it returns true, and writes nothing that was there.
-/
import Derived.Test.YtjbcflbhaehncaaCheckWalk
namespace Go.Proofs.Ytjbcflbhaehncaa
open Go.RowKit
open Crc (U U_lo U_hi bv)

set_option maxHeartbeats 1000000 in
theorem checks_big (a : Option Addr) (len cap : Nat) (w : World) (hbig : 1000 < len) :
    Calls Try.prog 6 #[.slice a len cap] w fun e w' => e = .returned (.bool true) ∧ Below w.heap.size w w' := by
  have hb : (1000 : Int) < (len : Int) := by omega
  clear hbig
  go_enter Try.func6, Try.ntmps6
  go_wp2_with fail
  refine (awake_any _).mono ?_
  rintro e w1 ⟨rfl, hb1⟩
  have HB1 := Lib.hid hb1
  clear hb1
  go_wp2
  go_ret
  exact ⟨rfl, HB1.out⟩

set_option maxHeartbeats 1000000 in
theorem checks_short (a : Option Addr) (len cap : Nat) (w : World) (h4 : len < 4) :
    Calls Try.prog 6 #[.slice a len cap] w fun e w' => e = .returned (.bool true) ∧ Below w.heap.size w w' := by
  have hb : (len : Int) < 4 := by omega
  go_enter Try.func6, Try.ntmps6
  go_wp2_with fail
  refine (check_short _ _ _ _ h4).mono ?_
  rintro e w1 ⟨rfl, hb1⟩
  have HB1 := Lib.hid hb1
  clear hb1
  go_wp2_with fail
  refine (awake_any _).mono ?_
  rintro e w2 ⟨rfl, hb2⟩
  have HB2 := Lib.hid (HB1.out.trans (hb2.mono HB1.out.size))
  clear hb2 HB1
  go_wp2
  go_ret
  exact ⟨rfl, HB2.out⟩

set_option maxRecDepth 100000 in
set_option maxHeartbeats 1000000 in
theorem checks_yes (b off n cap : Nat) (l : List Int) (w : World) (hs : Sl w (some ⟨b, off, none⟩) (n + 4) l) (hm : n + 4 ≤ 1000) (hcap : n + 4 ≤ cap) (hq : (l.drop n == bytesOf (Crc.sum (l.take n))) = true) :
    Calls Try.prog 6 #[.slice (some ⟨b, off, none⟩) (n + 4) cap] w fun e w' => e = .returned (.bool true) ∧ Below w.heap.size w w' := by
  have h5 : (n : Int) + 4 ≤ (cap : Int) := by omega
  have h6 : n < cap := by omega
  have h7 : (n : Int) + 4 ≤ 1000 := by omega
  go_enter Try.func6, Try.ntmps6
  go_wp2_with fail
  refine (check_yes b off n cap l w hs (by omega) hcap hq).mono ?_
  rintro e w0 ⟨rfl, hb0⟩
  have S1 : Sl w0.drew (some ⟨b, off, none⟩) n (l.take n) := (hs.take n (by omega)).below hb0.drew
  have S2 : Sl w0.drew (some ⟨b, off + n, none⟩) 4 (l.drop n) := (hs.drop n 4 rfl).below hb0.drew
  have HB0 : Below w.heap.size w w0.drew := hb0.drew
  clear hs hb0
  go_wp2_with fail
  go_region_with (first | (go_at_call 11; refine (refsum_any _ _ _ _ _ S1 (by omega)).mono ?_; rintro e w' ⟨rfl, rfl⟩) | (go_at_call 15; refine (refbytes_any _ _).mono ?_; rintro e w1 ⟨a1, rfl, hs1, hb1⟩) | (go_at_call 13; refine (same_any _ _ _ _ _ _ _ _ _ (S2.below hb1) hs1 (by decide)).mono ?_; rintro e w2 ⟨rfl, hb2⟩))
  all_goals
    have HB2 := Lib.hid ((HB0.trans (hb1.mono (by have := HB0.size; exact this))).trans (hb2.mono (Nat.le_trans HB0.size hb1.size)))
    clear hb1 hs1 HB0 S1 S2 hb2
    go_wp2_with fail
    refine (awake_any _).mono ?_
    rintro e w3 ⟨rfl, hb3⟩
    have HB3 := Lib.hid (HB2.out.trans (hb3.mono HB2.out.size))
    clear hb3 HB2
    go_wp2
    go_ret
    exact ⟨rfl, HB3.out⟩

set_option maxRecDepth 100000 in
set_option maxHeartbeats 1000000 in
theorem checks_no (b off n cap : Nat) (l : List Int) (w : World) (hs : Sl w (some ⟨b, off, none⟩) (n + 4) l) (hm : n + 4 ≤ 1000) (hcap : n + 4 ≤ cap) (hq : (l.drop n == bytesOf (Crc.sum (l.take n))) = false) :
    Calls Try.prog 6 #[.slice (some ⟨b, off, none⟩) (n + 4) cap] w fun e w' => e = .returned (.bool true) ∧ Below w.heap.size w w' := by
  have h5 : (n : Int) + 4 ≤ (cap : Int) := by omega
  have h6 : n < cap := by omega
  have h7 : (n : Int) + 4 ≤ 1000 := by omega
  go_enter Try.func6, Try.ntmps6
  go_wp2_with fail
  refine (check_no b off n cap l w hs (by omega) hcap hq).mono ?_
  rintro e w0 ⟨rfl, hb0⟩
  have S1 : Sl w0.drew (some ⟨b, off, none⟩) n (l.take n) := (hs.take n (by omega)).below hb0.drew
  have S2 : Sl w0.drew (some ⟨b, off + n, none⟩) 4 (l.drop n) := (hs.drop n 4 rfl).below hb0.drew
  have HB0 : Below w.heap.size w w0.drew := hb0.drew
  clear hs hb0
  go_wp2_with fail
  go_region_with (first | (go_at_call 11; refine (refsum_any _ _ _ _ _ S1 (by omega)).mono ?_; rintro e w' ⟨rfl, rfl⟩) | (go_at_call 15; refine (refbytes_any _ _).mono ?_; rintro e w1 ⟨a1, rfl, hs1, hb1⟩) | (go_at_call 13; refine (same_any _ _ _ _ _ _ _ _ _ (S2.below hb1) hs1 (by decide)).mono ?_; rintro e w2 ⟨rfl, hb2⟩))
  all_goals
    have HB2 := Lib.hid ((HB0.trans (hb1.mono (by have := HB0.size; exact this))).trans (hb2.mono (Nat.le_trans HB0.size hb1.size)))
    clear hb1 hs1 HB0 S1 S2 hb2
    go_wp2_with fail
    refine (awake_any _).mono ?_
    rintro e w3 ⟨rfl, hb3⟩
    have HB3 := Lib.hid (HB2.out.trans (hb3.mono HB2.out.size))
    clear hb3 HB2
    go_wp2
    go_ret
    exact ⟨rfl, HB3.out⟩

theorem crcChecks_walk (a : Option Addr) (len cap : Nat) (l : List Int) (w : World) (hs : Sl w a len l) (hcap : len ≤ cap) :
    Calls Try.prog 6 #[.slice a len cap] w fun e w' => e = .returned (.bool true) ∧ Below w.heap.size w w' := by
  by_cases hbig : 1000 < len
  · exact checks_big a len cap w hbig
  · by_cases h4 : len < 4
    · exact checks_short a len cap w h4
    · obtain ⟨n, rfl⟩ : ∃ n, len = n + 4 := ⟨len - 4, by omega⟩
      obtain ⟨b, off, rfl, _⟩ := hs.at 0 (by omega)
      cases hq : (l.drop n == bytesOf (Crc.sum (l.take n))) with
      | true => exact checks_yes b off n cap l w hs (by omega) hcap hq
      | false => exact checks_no b off n cap l w hs (by omega) hcap hq
end Go.Proofs.Ytjbcflbhaehncaa

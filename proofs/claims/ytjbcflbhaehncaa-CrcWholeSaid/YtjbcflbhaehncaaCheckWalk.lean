/-
  The walk of crc.Check: too short; or whether the last four bytes are the sum of those ahead.
-/
import Derived.Test.YtjbcflbhaehncaaAwake
import Derived.Deep.RegionWith
namespace Go.Proofs.Ytjbcflbhaehncaa
open Go.RowKit
open Crc (U U_lo U_hi bv)

theorem Sl.take {w : World} {b off len : Nat} {l : List Int} (h : Sl w (some ⟨b, off, none⟩) len l) (n : Nat) (hn : n ≤ len) : Sl w (some ⟨b, off, none⟩) n (l.take n) := by
  obtain ⟨h1, h2, h3⟩ := h
  refine ⟨by rw [List.length_take]; omega, fun z hz => h2 z (List.mem_of_mem_take hz), ?_⟩
  by_cases h0 : n = 0
  · exact .inl h0
  · rcases h3 with h3 | ⟨b', off', e, hlt, hc⟩
    · omega
    · cases e
      refine .inr ⟨b, off, rfl, hlt, fun i hi => ?_⟩
      rw [show (l.take n).getD i 0 = l.getD i 0 from by simp only [List.getD_eq_getElem?_getD, List.getElem?_take, hi, if_true]]
      exact hc i (by omega)

theorem Sl.drop {w : World} {b off len : Nat} {l : List Int} (h : Sl w (some ⟨b, off, none⟩) len l) (n m : Nat) (hn : n + m = len) : Sl w (some ⟨b, off + n, none⟩) m (l.drop n) := by
  obtain ⟨h1, h2, h3⟩ := h
  refine ⟨by rw [List.length_drop]; omega, fun z hz => h2 z (List.mem_of_mem_drop hz), ?_⟩
  by_cases h0 : m = 0
  · exact .inl h0
  · rcases h3 with h3 | ⟨b', off', e, hlt, hc⟩
    · omega
    · cases e
      refine .inr ⟨b, off + n, rfl, hlt, fun i hi => ?_⟩
      rw [show (l.drop n).getD i 0 = l.getD (n + i) 0 from by simp only [List.getD_eq_getElem?_getD, List.getElem?_drop], Nat.add_assoc]
      exact hc (n + i) (by omega)

/-- What Check tells of bytes. -/
def checkOf (l : List Int) : Int := if l.length < 4 then 13 else if (l.drop (l.length - 4) == bytesOf (Crc.sum (l.take (l.length - 4)))) = true then 0 else 24

set_option maxHeartbeats 400000 in
theorem check_short (a : Option Addr) (len cap : Nat) (w : World) (h4 : len < 4) :
    Calls Try.prog 18 #[.slice a len cap] w fun e w' => e = .returned (.int .i64 13) ∧ Below w.heap.size w w' := by
  have h6 : (len : Int) < 4 := by omega
  go_enter Try.func18, Try.ntmps18
  go_wp2
  go_ret
  exact ⟨rfl, Below.refl _ _⟩

set_option maxHeartbeats 1000000 in
theorem check_yes (b off n cap : Nat) (l : List Int) (w : World) (hs : Sl w (some ⟨b, off, none⟩) (n + 4) l) (hm : n + 4 ≤ 140737488351232) (hcap : n + 4 ≤ cap) (hq : (l.drop n == bytesOf (Crc.sum (l.take n))) = true) :
    Calls Try.prog 18 #[.slice (some ⟨b, off, none⟩) (n + 4) cap] w fun e w' => e = .returned (.int .i64 0) ∧ Below w.heap.size w w' := by
  have h5 : (n : Int) + 4 ≤ (cap : Int) := by omega
  have h6 : n < cap := by omega
  have S1 : Sl w.drew (some ⟨b, off, none⟩) n (l.take n) := hs.take n (by omega)
  have S2 : Sl w.drew (some ⟨b, off + n, none⟩) 4 (l.drop n) := hs.drop n 4 rfl
  have HB0 : Below w.heap.size w w.drew := (Below.refl _ _).drew
  clear hs
  go_enter Try.func18, Try.ntmps18
  go_wp2_with fail
  go_region_with (first | (go_at_call 10; refine (sum_any _ _ _ _ _ S1 (by omega)).mono ?_; rintro e w' ⟨rfl, rfl⟩) | (go_at_call 14; refine (bytes_any _ _).mono ?_; rintro e w1 ⟨a1, rfl, hs1, hb1⟩) | (go_at_call 22; refine (equal_any _ _ _ _ _ _ _ _ _ (S2.below hb1) hs1).mono ?_; rintro e w' ⟨rfl, rfl⟩))
  all_goals
    have HB1 := HB0.trans (hb1.mono (Nat.le_refl _))
    clear hb1 hs1 HB0 S1 S2
    go_wp2
    go_ret
    exact ⟨rfl, HB1⟩

set_option maxHeartbeats 1000000 in
theorem check_no (b off n cap : Nat) (l : List Int) (w : World) (hs : Sl w (some ⟨b, off, none⟩) (n + 4) l) (hm : n + 4 ≤ 140737488351232) (hcap : n + 4 ≤ cap) (hq : (l.drop n == bytesOf (Crc.sum (l.take n))) = false) :
    Calls Try.prog 18 #[.slice (some ⟨b, off, none⟩) (n + 4) cap] w fun e w' => e = .returned (.int .i64 24) ∧ Below w.heap.size w w' := by
  have h5 : (n : Int) + 4 ≤ (cap : Int) := by omega
  have h6 : n < cap := by omega
  have S1 : Sl w.drew (some ⟨b, off, none⟩) n (l.take n) := hs.take n (by omega)
  have S2 : Sl w.drew (some ⟨b, off + n, none⟩) 4 (l.drop n) := hs.drop n 4 rfl
  have HB0 : Below w.heap.size w w.drew := (Below.refl _ _).drew
  clear hs
  go_enter Try.func18, Try.ntmps18
  go_wp2_with fail
  go_region_with (first | (go_at_call 10; refine (sum_any _ _ _ _ _ S1 (by omega)).mono ?_; rintro e w' ⟨rfl, rfl⟩) | (go_at_call 14; refine (bytes_any _ _).mono ?_; rintro e w1 ⟨a1, rfl, hs1, hb1⟩) | (go_at_call 22; refine (equal_any _ _ _ _ _ _ _ _ _ (S2.below hb1) hs1).mono ?_; rintro e w' ⟨rfl, rfl⟩))
  all_goals
    have HB1 := HB0.trans (hb1.mono (Nat.le_refl _))
    clear hb1 hs1 HB0 S1 S2
    go_wp2
    go_ret
    exact ⟨rfl, HB1⟩

theorem check_any (a : Option Addr) (len cap : Nat) (l : List Int) (w : World) (hs : Sl w a len l) (hm : len ≤ 140737488351232) (hcap : len ≤ cap) :
    Calls Try.prog 18 #[.slice a len cap] w fun e w' => e = .returned (.int .i64 (checkOf l)) ∧ Below w.heap.size w w' := by
  by_cases h4 : len < 4
  · refine (check_short a len cap w h4).mono ?_
    rintro e w' ⟨rfl, hb⟩
    exact ⟨by unfold checkOf; rw [hs.1, if_pos h4], hb⟩
  · obtain ⟨n, rfl⟩ : ∃ n, len = n + 4 := ⟨len - 4, by omega⟩
    obtain ⟨b, off, rfl, _⟩ := hs.at 0 (by omega)
    have e : checkOf l = if (l.drop n == bytesOf (Crc.sum (l.take n))) = true then 0 else 24 := by
      unfold checkOf
      rw [hs.1, if_neg h4]
      simp
    cases hq : (l.drop n == bytesOf (Crc.sum (l.take n))) with
    | true =>
      refine (check_yes b off n cap l w hs hm hcap hq).mono ?_
      rintro e w' ⟨rfl, hb⟩
      exact ⟨by rw [e, hq]; rfl, hb⟩
    | false =>
      refine (check_no b off n cap l w hs hm hcap hq).mono ?_
      rintro e w' ⟨rfl, hb⟩
      exact ⟨by rw [e, hq]; rfl, hb⟩
end Go.Proofs.Ytjbcflbhaehncaa

/-
  The walks of forebayref14.Step, Behind and Sum, and of crc.Sum: what they give of numbers and of bytes that read as a list; the world stays as it was.
-/
import Derived.Test.YtjbcflbhaehncaaSums
namespace Go.Proofs.Ytjbcflbhaehncaa
open Go.RowKit
open Crc (U U_lo U_hi bv)

theorem tmod_two (x : BitVec 32) : (U x).tmod 2 = if x.getLsbD 0 then 1 else 0 := by
  have h := Crc.bits_and_one x
  have e : bits .and .u32 (U x) 1 = U x % 2 := by
    have := bits_mask .u32 32 (by decide) (fun n h0 h1 => by rw [IntKind.wrap_u32]; omega) 1 (by decide) (U x) (U_lo x) (U_hi x)
    simpa using this
  rw [e] at h
  rw [Int.tmod_eq_emod_of_nonneg (U_lo x), h]

theorem tdiv_two (x : BitVec 32) : (U x).tdiv 2 = U (x >>> 1) := by
  rw [Int.tdiv_eq_ediv_of_nonneg (U_lo x)]
  exact Crc.U_shr x 1

theorem div_two (x : BitVec 32) : U x / (2 : Int) = U (x >>> 1) := Crc.U_shr x 1

theorem poly_U : U Crc.poly = 3988292384 := by
  rw [show Crc.poly = BitVec.ofInt 32 3988292384 from rfl, Crc.U_ofInt _ (by decide) (by decide)]

theorem xor_poly (x : BitVec 32) : bits .xor .u32 (U x) 3988292384 = U (x ^^^ Crc.poly) := by
  rw [← Crc.bits_xor, poly_U]

theorem half_odd (x : BitVec 32) (h : x.getLsbD 0 = true) : Crc.half x = x >>> 1 ^^^ Crc.poly := by unfold Crc.half; rw [h]; rfl
theorem half_even (x : BitVec 32) (h : x.getLsbD 0 = false) : Crc.half x = x >>> 1 := by unfold Crc.half; rw [h]; simp

set_option maxHeartbeats 400000 in
theorem refstep_any (x : BitVec 32) (w : World) :
    Calls Try.prog 17 #[.int .u32 (U x)] w fun e w' => e = .returned (.int .u32 (U (Crc.step x))) ∧ w = w' := by
  have HX : Hid (Crc.halves 8 x = Crc.step x) := Lib.hid rfl
  have h0 := U_lo x
  have h1 := U_hi x
  go_enter Try.func17, Try.ntmps17
  go_wp2
  go_loop [0, 3] (fun v i => ∃ (k : Nat) (y : BitVec 32), k ≤ 8 ∧ i = .int .i64 k ∧ v = .int .u32 (U y) ∧ Hid (Crc.halves (8 - k) y = Crc.step x)) (fun _ i => 8 - (intOf i).toNat)
  case atStart => exact ⟨0, x, by omega, rfl, rfl, HX⟩
  case round =>
    obtain ⟨k, y, hk, rfl, rfl, HY⟩ := hrel
    clear HX h0 h1
    have h0 := U_lo y
    have h1 := U_hi y
    by_cases hlt : k < 8
    · have e := HY.out
      clear HY
      rw [show 8 - k = (8 - (k + 1)) + 1 from by omega] at e
      have e' : Crc.halves (8 - (k + 1)) (Crc.half y) = Crc.step x := e
      have HE := Lib.hid e'
      clear e e'
      cases hb : y.getLsbD 0 with
      | true =>
        have h2 : U y % (2 : Int) = 1 := by
          have h := tmod_two y
          rw [Int.tmod_eq_emod_of_nonneg h0, hb] at h
          simpa using h
        have h3 := div_two y
        have h4 := xor_poly (y >>> 1)
        rw [← half_odd y hb] at h4
        clear hb
        go_wp2
        go_round
        case rel => exact ⟨k + 1, _, by omega, by go_num, rfl, HE⟩
        case measure => simp [intOf]; omega
      | false =>
        have h2 : U y % (2 : Int) = 0 := by
          have h := tmod_two y
          rw [Int.tmod_eq_emod_of_nonneg h0, hb] at h
          simpa using h
        have h3 := div_two y
        rw [← half_even y hb] at h3
        clear hb
        go_wp2
        go_round
        case rel => exact ⟨k + 1, _, by omega, by go_num, int_eq h3, HE⟩
        case measure => simp [intOf]; omega
    · have hk8 : k = 8 := by omega
      subst hk8
      go_wp2
      go_ret
      exact ⟨ret_int (congrArg U HY.out), rfl⟩

set_option maxHeartbeats 400000 in
theorem behind_any (s : BitVec 32) (c : Int) (h0 : 0 ≤ c) (h1 : c < 256) (w : World) :
    Calls Try.prog 9 #[.int .u32 (U s), .int .u8 c] w fun e w' => e = .returned (.int .u32 (U (Crc.behind s c))) ∧ w = w' := by
  have e1 := xor_ones s
  have e2 := xor_byte (s ^^^ Crc.ones) c h0 h1
  have e3 := xor_ones (Crc.step (s ^^^ Crc.ones ^^^ bv c))
  go_enter Try.func9, Try.ntmps9
  go_wp2_with (go_at_call 17; refine (refstep_any _ _).mono ?_; rintro e w' ⟨rfl, rfl⟩)
  go_ret
  exact ⟨rfl, rfl⟩

theorem zero_U : U 0#32 = 0 := by rw [show (0#32) = BitVec.ofInt 32 0 from rfl, Crc.U_ofInt _ (by decide) (by decide)]

set_option maxHeartbeats 400000 in
theorem sum_any (a : Option Addr) (len cap : Nat) (l : List Int) (w : World) (hs : Sl w a len l) (hm : len ≤ 140737488351232) :
    Calls Try.prog 10 #[.slice a len cap] w fun e w' => e = .returned (.int .u32 (U (Crc.sum l))) ∧ w = w' := by
  have hc := update_any 0#32 a len cap l w hs hm
  rw [zero_U] at hc
  have HC := Lib.hid hc
  clear hc
  go_enter Try.func10, Try.ntmps10
  go_wp2_with (go_at_call 12; refine HC.out.mono ?_; rintro e w' ⟨rfl, rfl⟩)
  go_ret
  exact ⟨rfl, rfl⟩

set_option maxHeartbeats 400000 in
theorem refsum_any (a : Option Addr) (len cap : Nat) (l : List Int) (w : World) (hs : Sl w a len l) (hm : len ≤ 140737488351232) :
    Calls Try.prog 11 #[.slice a len cap] w fun e w' => e = .returned (.int .u32 (U (Crc.sum l))) ∧ w = w' := by
  obtain ⟨hl, hb, hs⟩ := hs
  have hl' := Lib.hid hl; clear hl
  have HS : Hid (∀ k, k < len → ∃ b off, a = some ⟨b, off, none⟩ ∧ b < w.heap.size ∧ w.cell? ⟨b, off + k, none⟩ = some (.int .u8 (l.getD k 0))) := Lib.hid (by
    intro k hk
    rcases hs with h0 | ⟨b, off, rfl, hlt, hc⟩
    · omega
    · exact ⟨b, off, rfl, hlt, hc k hk⟩)
  clear hs
  go_enter Try.func11, Try.ntmps11
  go_wp2
  go_loop [3, 4] (fun v i => ∃ (k : Nat) (y : BitVec 32), k ≤ len ∧ i = .int .i64 k ∧ v = .int .u32 (U y) ∧ Hid (y = Crc.update 0#32 (l.take k))) (fun _ i => len - (intOf i).toNat)
  case atStart => exact ⟨0, 0#32, by omega, rfl, by rw [zero_U], Lib.hid (by simp [Crc.update_nil])⟩
  case round =>
    obtain ⟨k, y, hk, rfl, rfl, HY⟩ := hrel
    by_cases hkl : k < len
    · obtain ⟨b, off, rfl, hlt, hcell0⟩ := HS.out k hkl
      obtain ⟨z, hz⟩ : ∃ z, z = l.getD k 0 := ⟨_, rfl⟩
      have hcell : w.cell? ⟨b, off + k, none⟩ = some (.int .u8 z) := by rw [hz]; exact hcell0
      have hz0 : 0 ≤ z := by rw [hz]; exact (getD_byte hb k).1
      have hz1 : z < 256 := by rw [hz]; exact (getD_byte hb k).2
      have HZ := Lib.hid hz; clear hz hcell0
      go_wp2_with (go_at_call 9; refine (behind_any _ _ hz0 hz1 _).mono ?_; rintro e w' ⟨rfl, rfl⟩)
      go_round
      case rel => exact ⟨k + 1, _, by omega, by go_num, rfl, Lib.hid (by rw [take_snoc (by rw [hl'.out]; exact hkl), Crc.update_snoc, ← HY.out, HZ.out])⟩
      case measure => simp [intOf]; omega
    · have hkl' : k = len := by omega
      subst hkl'
      go_wp2
      go_ret
      refine ⟨ret_int (congrArg U ?_), rfl⟩
      rw [HY.out, List.take_of_length_le (by rw [hl'.out]; exact Nat.le_refl _)]; rfl
end Go.Proofs.Ytjbcflbhaehncaa

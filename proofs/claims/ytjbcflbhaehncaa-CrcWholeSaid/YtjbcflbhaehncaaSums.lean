/-
  The walks of crc.Update, crc.Sum, forebayref14.Step, Behind and Sum over bytes that read as a list.
-/
import Derived.Test.YtjbcflbhaehncaaStep
namespace Go.Proofs.Ytjbcflbhaehncaa
open Go.RowKit
open Crc (U U_lo U_hi bv)

/-- A slice of bytes that reads as l. -/
def Sl (w : World) (a : Option Addr) (len : Nat) (l : List Int) : Prop :=
  l.length = len ∧ (∀ z ∈ l, 0 ≤ z ∧ z < 256) ∧ (len = 0 ∨ ∃ b off, a = some ⟨b, off, none⟩ ∧ b < w.heap.size ∧ ∀ i, i < len → w.cell? ⟨b, off + i, none⟩ = some (.int .u8 (l.getD i 0)))

theorem getD_lt {l : List Int} {k : Nat} (h : k < l.length) : l.getD k 0 = l[k] := by simp [h]
theorem getD_ge {l : List Int} {k : Nat} (h : l.length ≤ k) : l.getD k 0 = 0 := by simp [h]

theorem getD_byte {l : List Int} (h : ∀ z ∈ l, 0 ≤ z ∧ z < 256) (k : Nat) : 0 ≤ l.getD k 0 ∧ l.getD k 0 < 256 := by
  by_cases hk : k < l.length
  · rw [getD_lt hk]; exact h _ (List.getElem_mem hk)
  · rw [getD_ge (by omega)]; omega

theorem take_snoc {l : List Int} {k : Nat} (h : k < l.length) : l.take (k + 1) = l.take k ++ [l.getD k 0] := by
  rw [List.take_succ_eq_append_getElem h, getD_lt h]

theorem xor_byte (x : BitVec 32) (z : Int) (h0 : 0 ≤ z) (h1 : z < 256) : bits .xor .u32 (U x) z = U (x ^^^ bv z) := by
  rw [← Crc.bits_xor]
  congr 1
  exact (Crc.U_ofInt z h0 (by omega)).symm

theorem xor_ones (x : BitVec 32) : bits .xor .u32 (U x) 4294967295 = U (x ^^^ Crc.ones) := by
  rw [← Crc.bits_xor]; congr 1
  rw [show Crc.ones = BitVec.ofInt 32 4294967295 from rfl, Crc.U_ofInt _ (by decide) (by decide)]

set_option maxHeartbeats 400000 in
theorem update_any (s : BitVec 32) (a : Option Addr) (len cap : Nat) (l : List Int) (w : World) (hs : Sl w a len l) (hm : len ≤ 140737488351232) :
    Calls Try.prog 12 #[.int .u32 (U s), .slice a len cap] w fun e w' => e = .returned (.int .u32 (U (Crc.update s l))) ∧ w = w' := by
  obtain ⟨hl, hb, hs⟩ := hs
  have hx := xor_ones s
  rcases hs with rfl | ⟨b, off, rfl, hlt, hc⟩
  · have hl0 : l = [] := List.length_eq_zero_iff.1 hl
    subst hl0
    have hz := xor_ones (s ^^^ Crc.ones)
    go_enter Try.func12, Try.ntmps12
    go_wp2
    go_loop [5, 13] (fun v i => i = .int .i64 0 ∧ v = .int .u32 (U (s ^^^ Crc.ones))) (fun _ i => 0)
    case atStart => exact ⟨rfl, rfl⟩
    case round =>
      obtain ⟨rfl, rfl⟩ := hrel
      go_wp2
      go_ret
      exact ⟨rfl, rfl⟩
  · have hl' := Lib.hid hl; clear hl
    have hc' := Lib.hid hc; clear hc
    go_enter Try.func12, Try.ntmps12
    go_wp2
    go_loop [5, 13] (fun v i => ∃ (k : Nat) (y : BitVec 32), k ≤ len ∧ i = .int .i64 k ∧ v = .int .u32 (U y) ∧ Hid (y = Crc.raw (s ^^^ Crc.ones) (l.take k))) (fun _ i => len - (intOf i).toNat)
    case atStart => exact ⟨0, _, by omega, rfl, rfl, Lib.hid rfl⟩
    case round =>
      clear hx
      obtain ⟨k, y, hk, rfl, rfl, HY⟩ := hrel
      by_cases hkl : k < len
      · obtain ⟨z, hz⟩ : ∃ z, z = l.getD k 0 := ⟨_, rfl⟩
        have hcell : w.cell? ⟨b, off + k, none⟩ = some (.int .u8 z) := by rw [hz]; exact hc'.out k hkl
        have hz0 : 0 ≤ z := by rw [hz]; exact (getD_byte hb k).1
        have hz1 : z < 256 := by rw [hz]; exact (getD_byte hb k).2
        have hxz := xor_byte y z hz0 hz1
        have HZ := Lib.hid hz; clear hz
        go_wp2_with (go_at_call 19; refine (step_any _ _).mono ?_; rintro e w' ⟨rfl, rfl⟩)
        go_round
        case rel => exact ⟨k + 1, _, by omega, by go_num, rfl, Lib.hid (by rw [take_snoc (by rw [hl'.out]; exact hkl), Crc.raw_snoc, ← HY.out, HZ.out])⟩
        case measure => simp [intOf]; omega
      · have hkl' : k = len := by omega
        subst hkl'
        have hx := xor_ones y
        go_wp2
        go_ret
        refine ⟨ret_int (congrArg U ?_), rfl⟩
        rw [HY.out, List.take_of_length_le (by rw [hl'.out]; exact Nat.le_refl _)]; rfl
end Go.Proofs.Ytjbcflbhaehncaa

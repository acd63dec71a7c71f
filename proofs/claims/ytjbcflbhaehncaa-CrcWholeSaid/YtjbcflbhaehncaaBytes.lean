/-
  The walks of crc.Bytes, forebayref14.Bytes, bytes.Equal and same over bytes that read as lists.
-/
import Derived.Test.YtjbcflbhaehncaaRefs
import Derived.Laws.BytesArg
import Derived.Lib.Bytes
import Derived.BigQuiet
import Derived.Deep.QuietTactic
namespace Go.Proofs.Ytjbcflbhaehncaa
open Go.RowKit
open Crc (U U_lo U_hi bv)

/-- A sum's four bytes. -/
def bytesOf (s : BitVec 32) : List Int := [U s / 16777216, U s / 65536 % 256, U s / 256 % 256, U s % 256]

theorem Sl.below {w w' : World} {a : Option Addr} {len : Nat} {l : List Int} (h : Sl w a len l) (hb : Below w.heap.size w w') : Sl w' a len l := by
  obtain ⟨h1, h2, h3⟩ := h
  refine ⟨h1, h2, ?_⟩
  rcases h3 with h0 | ⟨b, off, rfl, hlt, hc⟩
  · exact .inl h0
  · exact .inr ⟨b, off, rfl, Nat.lt_of_lt_of_le hlt hb.size, fun i hi => (hb.cell (p := ⟨b, off + i, none⟩) hlt).trans (hc i hi)⟩

/-- A call that makes bytes. -/
def Made (w : World) (l : List Int) (e : Ending) (w' : World) : Prop :=
  ∃ a, e = .returned (.slice a 4 4) ∧ Sl w' a 4 l ∧ Below w.heap.size w w'

theorem made_four (w : World) (a b c d : Int) (ha : 0 ≤ a ∧ a < 256) (hb : 0 ≤ b ∧ b < 256) (hc : 0 ≤ c ∧ c < 256) (hd : 0 ≤ d ∧ d < 256) :
    Made w [a, b, c, d] (.returned (.slice (some ⟨w.heap.size, 0, none⟩) 4 4)) (w.alloc (.cells #[.int .u8 a, .int .u8 b, .int .u8 c, .int .u8 d] 5)) := by
  refine ⟨_, rfl, ⟨rfl, ?_, .inr ⟨w.heap.size, 0, rfl, by simp, ?_⟩⟩, (Below.refl _ _).alloc (Nat.le_refl _) _⟩
  · intro z hz
    simp at hz
    rcases hz with rfl | rfl | rfl | rfl <;> assumption
  · intro i hi
    have : i = 0 ∨ i = 1 ∨ i = 2 ∨ i = 3 := by omega
    rw [cell_of_row _ w.heap.size (0 + i) _ 5 (0, 0) (heap_alloc_new w _)]
    rcases this with rfl | rfl | rfl | rfl <;> rfl

set_option maxHeartbeats 400000 in
theorem bytes_any (s : BitVec 32) (w : World) : Calls Try.prog 14 #[.int .u32 (U s)] w (Made w (bytesOf s)) := by
  have h0 := U_lo s
  have h1 := U_hi s
  have hm := made_four w (U s / 16777216) (U s / 65536 % 256) (U s / 256 % 256) (U s % 256) (by omega) (by omega) (by omega) (by omega)
  have HM := Lib.hid hm
  clear hm
  go_enter Try.func14, Try.ntmps14
  go_wp2
  go_ret
  exact HM.out

set_option maxHeartbeats 400000 in
theorem refbytes_any (s : BitVec 32) (w : World) : Calls Try.prog 15 #[.int .u32 (U s)] w (Made w (bytesOf s)) := by
  have h0 := U_lo s
  have h1 := U_hi s
  have hm := made_four w (U s / 16777216) (U s / 65536 % 256) (U s / 256 % 256) (U s % 256) (by omega) (by omega) (by omega) (by omega)
  have HM := Lib.hid hm
  clear hm
  go_enter Try.func15, Try.ntmps15
  go_wp2
  go_ret
  exact HM.out

theorem Sl.convert {w : World} {a : Option Addr} {len : Nat} {l : List Int} (h : Sl w a len l) (c : Nat) :
    (convert 22 9 (.slice a len c)).run Try.prog w = .ok (.string (strOfNums l)) w := by
  obtain ⟨h1, h2, h3⟩ := h
  rcases h3 with rfl | ⟨b, off, rfl, hlt, hc⟩
  · obtain rfl : l = [] := List.length_eq_zero_iff.1 h1
    rw [run_convert_bytes_string w 22 9 5 _ 0 c Try.underlying22 Try.underlying5 Try.underlying9]
    cases a <;> simp [Conv.bytesToString, loadCells]
    all_goals rfl
  · exact run_convert_bytes_arg (P := Try.prog) w 22 5 Try.underlying22 Try.underlying5 b off len c l h1 hc 9 Try.underlying9

theorem strOfNums_inj {l m : List Int} (hl : ∀ z ∈ l, 0 ≤ z ∧ z < 256) (hm : ∀ z ∈ m, 0 ≤ z ∧ z < 256) : ((strOfNums l).toList == (strOfNums m).toList) = (l == m) := by
  rw [Lib.strOfNums_toList, Lib.strOfNums_toList, Bool.eq_iff_iff, beq_iff_eq, beq_iff_eq]
  constructor
  · intro h
    have hlen : l.length = m.length := by have := congrArg List.length h; simpa [Lib.bytesOf] using this
    refine List.ext_getElem hlen fun i h1 h2 => ?_
    have hi : (Lib.bytesOf l)[i]? = (Lib.bytesOf m)[i]? := by rw [h]
    simp only [Lib.bytesOf, List.getElem?_map, List.getElem?_eq_getElem h1, List.getElem?_eq_getElem h2, Option.map_some, Option.some.injEq] at hi
    have b1 := hl _ (List.getElem_mem h1)
    have b2 := hm _ (List.getElem_mem h2)
    have hn := congrArg UInt8.toNat hi
    simp only [UInt8.toNat_ofNat'] at hn
    omega
  · rintro rfl; rfl

set_option maxHeartbeats 400000 in
theorem equal_any (a1 : Option Addr) (len1 cap1 : Nat) (l1 : List Int) (a2 : Option Addr) (len2 cap2 : Nat) (l2 : List Int) (w : World) (h1 : Sl w a1 len1 l1) (h2 : Sl w a2 len2 l2) :
    Calls Try.prog 22 #[.slice a1 len1 cap1, .slice a2 len2 cap2] w fun e w' => e = .returned (.bool (l1 == l2)) ∧ w = w' := by
  have c1 := h1.convert cap1
  have c2 := h2.convert cap2
  have hq := Lib.hid (strOfNums_inj h1.2.1 h2.2.1)
  clear h1 h2
  go_enter Try.func22, Try.ntmps22
  go_wp2
  go_ret
  refine ⟨?_, rfl⟩
  rw [← hq.out]; rfl
end Go.Proofs.Ytjbcflbhaehncaa

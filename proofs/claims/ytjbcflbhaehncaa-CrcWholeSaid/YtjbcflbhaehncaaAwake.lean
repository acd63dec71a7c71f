/-
  The walk of forebaylaw14.awake: the chapter's examples hold.
-/
import Derived.Test.YtjbcflbhaehncaaComb
import Derived.Lib.SlBytesConst
namespace Go.Proofs.Ytjbcflbhaehncaa
open Go.RowKit
open Crc (U U_lo U_hi bv)

theorem combine_int (a b : BitVec 32) (n : Int) (h0 : 0 ≤ n) (h1 : n < 9223372036854775808) (w : World) :
    Calls Try.prog 16 #[.int .u32 (U a), .int .u32 (U b), .int .i64 n] w (Combined w (Crc.steps n.toNat a ^^^ b)) := by
  obtain ⟨m, rfl⟩ := Int.eq_ofNat_of_zero_le h0
  exact combine_pos a b m (by omega) w

theorem sl_new (w : World) (l : List Int) (n : Nat) (fr : Nat × Nat) (hn : l.length = n) (hl : ∀ z ∈ l, 0 ≤ z ∧ z < 256) : Sl (w.alloc (.cells (l.map (Value.int .u8)).toArray 5 fr)) (some ⟨w.heap.size, 0, none⟩) n l := by
  refine ⟨hn, hl, .inr ⟨w.heap.size, 0, rfl, by simp, fun i hi => ?_⟩⟩
  rw [cell_of_row _ w.heap.size (0 + i) _ 5 fr (heap_alloc_new w _)]
  simp [show i < l.length from by omega]

theorem Sl.alloc {w : World} {a : Option Addr} {len : Nat} {l : List Int} (h : Sl w a len l) (o : Obj) : Sl (w.alloc o) a len l :=
  h.below ((Below.refl _ _).alloc (Nat.le_refl _) _)

def d9 : List Int := [49, 50, 51, 52, 53, 54, 55, 56, 57]
def d4 : List Int := [49, 50, 51, 52]
def d5 : List Int := [53, 54, 55, 56, 57]

theorem sum9 : Crc.sum d9 = 0xCBF43926#32 := by decide +kernel
theorem sum4 : Crc.sum d4 = 0x9BE3E0A3#32 := by decide +kernel
theorem comb45 : Crc.steps (5 : Int).toNat (Crc.sum d4) ^^^ Crc.sum d5 = Crc.sum d9 := (Crc.sum_append d4 d5).symm
theorem q1 : (U (Crc.sum d9) == 3421780262) = true := by
  rw [sum9, show (0xCBF43926#32) = BitVec.ofInt 32 3421780262 from rfl, Crc.U_ofInt _ (by decide) (by decide)]; rfl
theorem q2 : (U (Crc.sum d4) == 2615402659) = true := by
  rw [sum4, show (0x9BE3E0A3#32) = BitVec.ofInt 32 2615402659 from rfl, Crc.U_ofInt _ (by decide) (by decide)]; rfl
theorem q3 : (bytesOf (Crc.sum d9) == [203, 244, 57, 38]) = true := by
  unfold bytesOf
  rw [sum9, show (0xCBF43926#32) = BitVec.ofInt 32 3421780262 from rfl, Crc.U_ofInt _ (by decide) (by decide)]; rfl

theorem conv_const (w : World) (C : Array Value) (n c k : Nat) (hk : k = w.heap.size) :
    (convert 22 22 (.slice (some ⟨k, 0, none⟩) n c)).run Try.prog (w.alloc (.cells C 5)) = .ok (.slice (some ⟨k, 0, none⟩) n c) (w.alloc (.cells C 5 (C.size, C.size + 1))) := by
  subst hk
  exact Lib.run_convert_bytes_const (P := Try.prog) w 22 5 C n c Try.underlying22 Try.underlying5

set_option maxHeartbeats 1000000 in
theorem awake_any (w : World) : Calls Try.prog 8 #[] w fun e w' => e = .returned (.bool true) ∧ Below w.heap.size w w' := by
  have k1 := conv_const w #[.int .u8 49, .int .u8 50, .int .u8 51, .int .u8 52, .int .u8 53, .int .u8 54, .int .u8 55, .int .u8 56, .int .u8 57] 9 9 w.heap.size rfl
  have k2 := conv_const (w.alloc (.cells #[.int .u8 49, .int .u8 50, .int .u8 51, .int .u8 52, .int .u8 53, .int .u8 54, .int .u8 55, .int .u8 56, .int .u8 57] 5 (9, 10))) #[.int .u8 49, .int .u8 50, .int .u8 51, .int .u8 52] 4 4 (w.heap.size + 1) (World.size_alloc _ _).symm
  have k3 := conv_const ((w.alloc (.cells #[.int .u8 49, .int .u8 50, .int .u8 51, .int .u8 52, .int .u8 53, .int .u8 54, .int .u8 55, .int .u8 56, .int .u8 57] 5 (9, 10))).alloc (.cells #[.int .u8 49, .int .u8 50, .int .u8 51, .int .u8 52] 5 (4, 5))) #[.int .u8 53, .int .u8 54, .int .u8 55, .int .u8 56, .int .u8 57] 5 5 (w.heap.size + 1 + 1) (by rw [World.size_alloc, World.size_alloc])
  simp only [List.size_toArray, List.length_cons, List.length_nil, Nat.reduceAdd] at k1 k2 k3
  have s1 : Sl (w.alloc (.cells #[.int .u8 49, .int .u8 50, .int .u8 51, .int .u8 52, .int .u8 53, .int .u8 54, .int .u8 55, .int .u8 56, .int .u8 57] 5 (9, 10))) (some ⟨w.heap.size, 0, none⟩) 9 d9 := sl_new w d9 9 _ rfl (by decide)
  have s2 : Sl ((w.alloc (.cells #[.int .u8 49, .int .u8 50, .int .u8 51, .int .u8 52, .int .u8 53, .int .u8 54, .int .u8 55, .int .u8 56, .int .u8 57] 5 (9, 10))).alloc (.cells #[.int .u8 49, .int .u8 50, .int .u8 51, .int .u8 52] 5 (4, 5))) (some ⟨w.heap.size + 1, 0, none⟩) 4 d4 := by
    have := sl_new (w.alloc (.cells #[.int .u8 49, .int .u8 50, .int .u8 51, .int .u8 52, .int .u8 53, .int .u8 54, .int .u8 55, .int .u8 56, .int .u8 57] 5 (9, 10))) d4 4 (4, 5) rfl (by decide)
    rwa [World.size_alloc] at this
  have s3 : Sl (((w.alloc (.cells #[.int .u8 49, .int .u8 50, .int .u8 51, .int .u8 52, .int .u8 53, .int .u8 54, .int .u8 55, .int .u8 56, .int .u8 57] 5 (9, 10))).alloc (.cells #[.int .u8 49, .int .u8 50, .int .u8 51, .int .u8 52] 5 (4, 5))).alloc (.cells #[.int .u8 53, .int .u8 54, .int .u8 55, .int .u8 56, .int .u8 57] 5 (5, 6))) (some ⟨w.heap.size + 1 + 1, 0, none⟩) 5 d5 := by
    have := sl_new ((w.alloc (.cells #[.int .u8 49, .int .u8 50, .int .u8 51, .int .u8 52, .int .u8 53, .int .u8 54, .int .u8 55, .int .u8 56, .int .u8 57] 5 (9, 10))).alloc (.cells #[.int .u8 49, .int .u8 50, .int .u8 51, .int .u8 52] 5 (4, 5))) d5 5 (5, 6) rfl (by decide)
    rwa [World.size_alloc, World.size_alloc] at this
  have hb0 : Below w.heap.size w (((w.alloc (.cells #[.int .u8 49, .int .u8 50, .int .u8 51, .int .u8 52, .int .u8 53, .int .u8 54, .int .u8 55, .int .u8 56, .int .u8 57] 5 (9, 10))).alloc (.cells #[.int .u8 49, .int .u8 50, .int .u8 51, .int .u8 52] 5 (4, 5))).alloc (.cells #[.int .u8 53, .int .u8 54, .int .u8 55, .int .u8 56, .int .u8 57] 5 (5, 6))) :=
    (((Below.refl _ _).alloc (Nat.le_refl _) _).alloc (by simp) _).alloc (by simp; omega) _
  have HB0 := Lib.hid hb0
  clear hb0
  have e1 := q1
  have e2 := q2
  have e3 := q3
  have E4 := Lib.hid comb45
  go_enter Try.func8, Try.ntmps8
  go_wp2_with fail
  refine (sum_any _ _ _ d9 _ s1 (by decide)).mono ?_
  rintro e w' ⟨rfl, rfl⟩
  clear s1 k1
  go_wp2_with fail
  refine (sum_any _ _ _ d4 _ s2 (by decide)).mono ?_
  rintro e w' ⟨rfl, rfl⟩
  clear s2 k2
  go_wp2_with fail
  refine (sum_any _ _ _ d5 _ s3 (by decide)).mono ?_
  rintro e w' ⟨rfl, rfl⟩
  clear s3 k3
  go_wp2_with fail
  refine (combine_int _ _ 5 (by decide) (by decide) _).mono ?_
  rintro e w4 ⟨rfl, hb4⟩
  rw [E4.out]
  have HB4 : Hid (Below w.heap.size w w4) := Lib.hid (HB0.out.trans (hb4.mono (by simp; omega)))
  clear hb4 HB0 E4
  go_wp2_with fail
  refine (bytes_any _ _).mono ?_
  rintro e w5 ⟨a5, rfl, hs5, hb5⟩
  have hz5 := Nat.le_trans HB4.out.size hb5.size
  have HB5 : Hid (Below w.heap.size w w5) := Lib.hid (HB4.out.trans (hb5.mono HB4.out.size))
  clear hb5 HB4
  go_wp2_with fail
  refine (same_any _ _ _ _ _ _ _ _ _ (hs5.alloc _) (sl_new w5 [203, 244, 57, 38] 4 (0, 0) rfl (by decide)) (by decide)).mono ?_
  rintro e w6 ⟨rfl, hb6⟩
  have HB6 : Hid (Below w.heap.size w w6) := Lib.hid ((HB5.out.alloc hz5 _).trans (hb6.mono (by simp; omega)))
  clear hb6 HB5 hs5
  rw [e3]
  go_wp2
  go_ret
  exact ⟨rfl, HB6.out⟩
end Go.Proofs.Ytjbcflbhaehncaa

/-
  The walk of the law CrcWhole: it returns true, and writes nothing that was there.
-/
import Derived.Test.YtjbcflbhaehncaaOwn
import Derived.Deep.DeepCutAuto
import Derived.Deep.CutBlock
namespace Go.Proofs.Ytjbcflbhaehncaa
open Go.RowKit
open Crc (U U_lo U_hi bv)

theorem bytesOf_inj {x y : BitVec 32} (h : bytesOf x = bytesOf y) : x = y := by
  unfold bytesOf at h
  simp only [List.cons.injEq, and_true] at h
  obtain ⟨h1, h2, h3, h4⟩ := h
  have a0 := U_lo x
  have a1 := U_hi x
  have b0 := U_lo y
  have b1 := U_hi y
  exact Crc.U_inj (by omega)

theorem bytesOf_length (x : BitVec 32) : (bytesOf x).length = 4 := rfl

theorem checkOf_append (l : List Int) (t : BitVec 32) : checkOf (l ++ bytesOf t) = if t = Crc.sum l then 0 else 24 := by
  have hl : (l ++ bytesOf t).length - 4 = l.length := by rw [List.length_append, bytesOf_length]; omega
  have hn : ¬ (l ++ bytesOf t).length < 4 := by rw [List.length_append, bytesOf_length]; omega
  unfold checkOf
  rw [if_neg hn, hl, List.drop_left, List.take_left]
  by_cases h : t = Crc.sum l
  · subst h; simp
  · have : (bytesOf t == bytesOf (Crc.sum l)) = false := beq_eq_false_iff_ne.2 (fun e => h (bytesOf_inj e))
    rw [this, if_neg h]; rfl

theorem U_eq (x y : BitVec 32) : (U x != U y) = (x != y) := by
  by_cases h : x = y
  · subst h; simp
  · have h1 : (U x != U y) = true := bne_iff_ne.2 (fun e => h (Crc.U_inj e))
    rw [h1]; exact (bne_iff_ne.2 h).symm

theorem xor_eq_self (s t : BitVec 32) : (s ^^^ t = s) ↔ t = 0#32 := by
  constructor
  · intro h
    have := congrArg (fun y => s ^^^ y) h
    simp only [← BitVec.xor_assoc, BitVec.xor_self, BitVec.zero_xor] at this
    exact this
  · rintro rfl; simp

theorem bit_at (x : BitVec 32) (i : Nat) : Go.bits .and .u32 (U x / (2 : Int) ^ i) 1 = if x.getLsbD i then 1 else 0 := by
  rw [Crc.U_shr, Crc.bits_and_one, BitVec.getLsbD_ushiftRight, Nat.add_zero]

/-- Behind i of the bits, from the bit f on: l has become l', and t tells whether one was turned. -/
def Burst (l l' : List Int) (f i : Nat) (bits : BitVec 32) (t : Bool) : Prop :=
  l'.length = l.length ∧ (∀ x, Crc.raw x l' = Crc.raw x l ^^^ Crc.halves (8 * l.length - f) (Crc.low i bits)) ∧ (t = true ↔ Crc.low i bits ≠ 0#32)

theorem burst_start (l : List Int) (f : Nat) (bits : BitVec 32) : Burst l l f 0 bits false := by
  refine ⟨rfl, fun x => ?_, ?_⟩
  · rw [Crc.low_zero, (Crc.halves_lin _).zero, BitVec.xor_zero]
  · rw [Crc.low_zero]; simp

theorem Burst.skip {l l' : List Int} {f i : Nat} {bits : BitVec 32} {t : Bool} (h : Burst l l' f i bits t) (hi : i < 32) (hb : bits.getLsbD i = false) : Burst l l' f (i + 1) bits t := by
  unfold Burst
  rw [Crc.low_skip i hi bits hb]
  exact h

theorem xor8 : ∀ n : Nat, n < 256 → ∀ r : Nat, r < 8 → (0 ≤ Go.bits .xor .u8 (n : Int) ((2 : Int) ^ r % 256) ∧ Go.bits .xor .u8 (n : Int) ((2 : Int) ^ r % 256) < 256) ∧ bv (Go.bits .xor .u8 (n : Int) ((2 : Int) ^ r % 256)) = bv (n : Int) ^^^ (1#32 <<< r) := by
  decide +kernel

theorem Burst.turn {l l' : List Int} {f i : Nat} {bits : BitVec 32} {t : Bool} (h : Burst l l' f i bits t) (hi : i < 32) (hb : bits.getLsbD i = true) (hf : f + i < 8 * l.length) (d : Int)
    (hd : bv d = bv (l'.getD ((f + i) / 8) 0) ^^^ (1#32 <<< ((f + i) % 8))) : Burst l (l'.set ((f + i) / 8) d) f (i + 1) bits true := by
  obtain ⟨h1, h2, h3⟩ := h
  refine ⟨by rw [List.length_set]; exact h1, fun x => ?_, ?_⟩
  · exact Crc.burst_step l l' f i bits d x h1 hi hf (h2 x) hb hd
  · simp only [true_iff]
    exact (Crc.low_ne i hi bits).2 (.inr hb)

theorem Burst.seen {l l' : List Int} {f i : Nat} {bits : BitVec 32} {t : Bool} (h : Burst l l' f i bits t) : (Crc.sum l' = Crc.sum l) ↔ t = false := by
  obtain ⟨h1, h2, h3⟩ := h
  rw [Crc.burst_seen l l' _ i bits h2]
  cases t <;> simp_all

set_option maxHeartbeats 1000000 in
theorem whole_big (a : Option Addr) (len cap : Nat) (from_ : Int) (bits : BitVec 32) (w : World) (hbig : 300 < len) :
    Calls Try.prog 7 #[.slice a len cap, .int .i64 from_, .int .u32 (U bits)] w fun e w' => e = .returned (.bool true) ∧ Below w.heap.size w w' := by
  have hb : (300 : Int) < (len : Int) := by omega
  clear hbig
  go_enter Try.func7, Try.ntmps7
  go_wp2_with fail
  refine (awake_any _).mono ?_
  rintro e w1 ⟨rfl, hb1⟩
  have HB1 := Lib.hid hb1
  clear hb1
  go_wp2
  go_ret
  exact ⟨rfl, HB1.out⟩

set_option maxHeartbeats 2000000 in
set_option maxRecDepth 100000 in
theorem whole_main (a : Option Addr) (len cap : Nat) (l : List Int) (from_ : Int) (bits : BitVec 32) (w : World) (hs : Sl w a len l) (hnil : a = none → cap = 0) (hle : len ≤ 300) :
    Calls Try.prog 7 #[.slice a len cap, .int .i64 from_, .int .u32 (U bits)] w fun e w' => e = .returned (.bool true) ∧ Below w.heap.size w w' := by
  have hm : len ≤ 140737488351232 := by omega
  have hb : ¬ (300 : Int) < (len : Int) := by omega
  have HS := Lib.hid hs
  have HN := Lib.hid hnil
  have HO : Hid (OwnB (w.alloc (.cells #[] 5)) w.heap.size (.slice (some ⟨w.heap.size, 0, none⟩) 0 0) 0 []) := Lib.hid (ownB_made w w.heap.size (Nat.le_refl _))
  clear hs hnil
  go_enter Try.func7, Try.ntmps7
  go_wp2_with fail
  refine (sum_any _ _ _ _ _ HS.out hm).mono ?_
  rintro e w' ⟨rfl, rfl⟩
  go_wp2_with (at_builtin; refine append_bytes _ rfl (.tmp 21) (.tmp 22) rfl w.heap.size _ 0 [] rfl HO.out a len cap l rfl (HS.out.alloc _) HN.out (by omega) (by simp) ?_; intro v1 w1 ho1 hg1 hat1)
  simp only [Nat.zero_add, List.nil_append] at ho1
  have HB1 : Hid (Below w.heap.size w w1) := Lib.hid (((Below.refl _ _).alloc (Nat.le_refl _) _).grown hg1 (by simp) (fun k e => by cases e; exact Nat.le_refl _))
  have HO1 := Lib.hid ho1
  clear ho1 hg1 hat1
  refine (bytes_any _ _).mono ?_
  rintro e w2 ⟨a2, rfl, hs2, hb2⟩
  have HO2 := Lib.hid (HO1.out.kept hb2)
  have HB2 := Lib.hid (HB1.out.trans (hb2.mono HB1.out.size))
  have HS2 := Lib.hid hs2
  clear hb2 hs2 HO1 HB1
  go_wp2_with (at_builtin; refine append_bytes _ rfl (.tmp 23) (.tmp 25) rfl w.heap.size _ len l rfl HO2.out a2 4 4 _ rfl HS2.out (fun e => by subst e; exact absurd HS2.out.none_nil (by decide)) (by omega) HB2.out.size ?_; intro v3 w3 ho3 hg3 hat3)
  obtain ⟨g3, cap3, rfl, hbg3, hlt3, hc3, hs3⟩ := ho3.form (by omega)
  have HB3 : Hid (Below w.heap.size w w3) := Lib.hid (HB2.out.grown hg3 HB2.out.size (fun k e => (HO2.out.2.2.lt k e).1))
  clear ho3 hg3 hat3
  refine (check_any _ _ _ _ _ hs3 (by omega) hc3).mono ?_
  rintro e w4 ⟨rfl, hb4⟩
  rw [checkOf_append, if_pos rfl]
  have HB4 := Lib.hid (HB3.out.trans (hb4.mono HB3.out.size))
  clear hb4 hs3 HB3 HB2 HO2 HS2
  obtain ⟨want, hwant⟩ : ∃ want : Int, want = if bits = 0#32 then 0 else 24 := ⟨_, rfl⟩
  have HW := Lib.hid hwant
  clear hwant
  go_upto_if 30 with (fail)
  go_cut [8] (fun v8 wc => v8 = .int .i64 want ∧ wc = w4)
  case first =>
    by_cases hz : bits = 0#32
    · have hz0 : (U bits != 0) = false := by rw [hz, zero_U]; rfl
      have hw0 : want = 0 := by rw [HW.out, if_pos hz]
      subst hw0
      clear hz
      go_wp2
      go_meet
      case rel => exact ⟨rfl, rfl⟩
    · have hz0 : (U bits != 0) = true := bne_iff_ne.2 (fun e => hz (Crc.U_inj (by rw [e, zero_U])))
      have hw0 : want = 24 := by rw [HW.out, if_neg hz]
      subst hw0
      clear hz
      go_wp2
      go_meet
      case rel => exact ⟨rfl, rfl⟩
  case rest =>
    obtain ⟨rfl, hwc⟩ := hcut
    subst hwc
    have hxs := Crc.bits_xor (Crc.sum l) bits
    have HO5 : Hid (OwnB (wc.alloc (.cells #[] 5)) w.heap.size (.slice (some ⟨wc.heap.size, 0, none⟩) 0 0) 0 []) := Lib.hid (ownB_made wc w.heap.size HB4.out.size)
    go_wp2_with (at_builtin; refine append_bytes _ rfl (.tmp 31) (.tmp 32) rfl w.heap.size _ 0 [] rfl HO5.out a len cap l rfl ((HS.out.below HB4.out).alloc _) HN.out (by omega) (by have := HB4.out.size; simp; omega) ?_; intro v5 w5 ho5 hg5 hat5)
    simp only [Nat.zero_add, List.nil_append] at ho5
    have HB5 : Hid (Below w.heap.size w w5) := Lib.hid ((HB4.out.alloc HB4.out.size _).grown hg5 (by have := HB4.out.size; simp; omega) (fun k e => by cases e; exact HB4.out.size))
    have HO6 := Lib.hid ho5
    clear ho5 hg5 hat5 HO5 HB4
    refine (bytes_any _ _).mono ?_
    rintro e w6 ⟨a6, rfl, hs6, hb6⟩
    have HO7 := Lib.hid (HO6.out.kept hb6)
    have HB6 := Lib.hid (HB5.out.trans (hb6.mono HB5.out.size))
    have HS6 := Lib.hid hs6
    clear hb6 hs6 HO6 HB5
    go_wp2_with (at_builtin; refine append_bytes _ rfl (.tmp 33) (.tmp 37) rfl w.heap.size _ len l rfl HO7.out a6 4 4 _ rfl HS6.out (fun e => by subst e; exact absurd HS6.out.none_nil (by decide)) (by omega) HB6.out.size ?_; intro v7 w7 ho7 hg7 hat7)
    obtain ⟨g7, cap7, rfl, hbg7, hlt7, hc7, hs7⟩ := ho7.form (by omega)
    have HB7 : Hid (Below w.heap.size w w7) := Lib.hid (HB6.out.grown hg7 HB6.out.size (fun k e => (HO7.out.2.2.lt k e).1))
    clear ho7 hg7 hat7
    refine (check_any _ _ _ _ _ hs7 (by omega) hc7).mono ?_
    rintro e w8 ⟨rfl, hb8⟩
    have hck : checkOf (l ++ bytesOf (Crc.sum l ^^^ bits)) = want := by
      rw [checkOf_append, HW.out]
      by_cases hz : bits = 0#32
      · rw [if_pos hz, if_pos ((xor_eq_self _ _).2 hz)]
      · rw [if_neg hz, if_neg (fun e => hz ((xor_eq_self _ _).1 e))]
    rw [hck]
    have HB8 := Lib.hid (HB7.out.trans (hb8.mono HB7.out.size))
    clear hb8 hs7 HB7 HB6 HO7 HS6 hxs hck HW
    by_cases hl0 : len = 0
    · have hle0 : ((len : Int) == 0) = true := by rw [hl0]; rfl
      clear hl0
      go_wp2_with fail
      refine (awake_any _).mono ?_
      rintro e w9 ⟨rfl, hb9⟩
      have HB9 := Lib.hid (HB8.out.trans (hb9.mono HB8.out.size))
      clear hb9 HB8
      go_wp2
      go_ret
      exact ⟨rfl, HB9.out⟩
    · have hle0 : ((len : Int) == 0) = false := by simp; omega
      have hpos : (0 : Int) < (len : Int) := by omega
      have hpos8 : ¬ (8 * (len : Int)) = 0 := by omega
      have hle8 : 8 * (len : Int) ≤ 2400 := by omega
      obtain ⟨f, hf, hfm⟩ := modq from_ (8 * (len : Int)) (by omega) (by omega)
      have HO9 : Hid (OwnB (w8.alloc (.cells #[] 5)) w.heap.size (.slice (some ⟨w8.heap.size, 0, none⟩) 0 0) 0 []) := Lib.hid (ownB_made w8 w.heap.size HB8.out.size)
      go_wp2_with (at_builtin; refine append_bytes _ rfl (.tmp 56) (.tmp 57) rfl w.heap.size _ 0 [] rfl HO9.out a len cap l rfl ((HS.out.below HB8.out).alloc _) HN.out (by omega) (by have := HB8.out.size; simp; omega) ?_; intro v9 w9 ho9 hg9 hat9)
      simp only [Nat.zero_add, List.nil_append] at ho9
      obtain ⟨g, cap9, rfl, hbg, hlt, hc9, hs9⟩ := ho9.form (by omega)
      have HB9 : Hid (Below w.heap.size w w9) := Lib.hid ((HB8.out.alloc HB8.out.size _).grown hg9 (by have := HB8.out.size; simp; omega) (fun k e => by cases e; exact HB8.out.size))
      have HO10 := Lib.hid ho9
      have HL : Hid (l.length = len) := Lib.hid HS.out.1
      clear ho9 hg9 hat9 HO9 HB8 hs9 hlt hc9
      go_wp2
      go_loopw [11, 12] (fun vt vi wr => ∃ (i : Nat) (l' : List Int) (t : Bool), i ≤ 32 ∧ f + i ≤ 8 * len ∧ vi = .int .i64 i ∧ vt = .bool t ∧ OwnB wr w.heap.size (.slice (some ⟨g, 0, none⟩) len cap9) len l' ∧ Below w.heap.size w wr ∧ Burst l l' f i bits t) (fun _ vi _ => 32 - (intOf vi).toNat)
      case atStart => exact ⟨0, l, false, by omega, by omega, rfl, rfl, HO10.out, HB9.out, burst_start l f bits⟩
      case round =>
        obtain ⟨i, l', t, hi, hfi, rfl, rfl, HO, HB, HT⟩ := hrel
        have HO' := Lib.hid HO
        have HB' := Lib.hid HB
        have HT' := Lib.hid HT
        clear HO HB HT HO10 HB9
        by_cases hin : i < 32 ∧ f + i < 8 * len
        · obtain ⟨hi32, hfl⟩ := hin
          have hi1 : (i : Int) < 32 := by omega
          have hi2 : (f : Int) + (i : Int) < 8 * (len : Int) := by omega
          cases hbit : bits.getLsbD i with
          | false =>
            have hb1 : Go.bits .and .u32 (U bits / (2 : Int) ^ i) 1 = 0 := by rw [bit_at, hbit]; rfl
            have HT2 := Lib.hid (HT'.out.skip hi32 hbit)
            clear hbit
            go_wp2
            go_roundw
            case rel => exact ⟨i + 1, l', t, by omega, by omega, by go_num, rfl, HO'.out, HB'.out, HT2.out⟩
            case measure => simp [intOf]; omega
          | true =>
            have hb1 : Go.bits .and .u32 (U bits / (2 : Int) ^ i) 1 = 1 := by rw [bit_at, hbit]; rfl
            have HBIT := Lib.hid hbit
            clear hbit
            obtain ⟨j, hj⟩ : ∃ j, j = (f + i) / 8 := ⟨_, rfl⟩
            obtain ⟨r, hr⟩ : ∃ r, r = (f + i) % 8 := ⟨_, rfl⟩
            have hj1 : ((f : Int) + (i : Int)) / 8 = (j : Int) := by omega
            have hr1 : ((f : Int) + (i : Int)) % 8 = (r : Int) := by omega
            have hr8 : (r : Int) < 8 := by omega
            have hjl : (j : Int) < (len : Int) := by omega
            obtain ⟨b', off', e', _, hcell⟩ := HO'.out.slice.at j (by omega)
            cases e'
            rw [Nat.zero_add] at hcell
            obtain ⟨zn, hzn, hz256⟩ : ∃ zn : Nat, l'.getD j 0 = (zn : Int) ∧ zn < 256 := by
              have := getD_byte HO'.out.2.1 j
              exact ⟨(l'.getD j 0).toNat, by omega, by omega⟩
            rw [hzn] at hcell
            have hfz := HO'.out.free j
            obtain ⟨d, hd⟩ : ∃ d, Go.bits .xor .u8 (zn : Int) ((2 : Int) ^ r % 256) = d := ⟨_, rfl⟩
            have HD : Hid ((0 ≤ d ∧ d < 256) ∧ bv d = bv (l'.getD j 0) ^^^ (1#32 <<< r)) := Lib.hid (by rw [hzn, ← hd]; exact xor8 zn hz256 r (by omega))
            have HZN := Lib.hid hzn
            have HJ : Hid (j = (f + i) / 8 ∧ r = (f + i) % 8) := Lib.hid ⟨hj, hr⟩
            clear hzn hj hr
            go_wp2
            go_region
            go_wp2
            go_roundw
            case rel =>
              refine ⟨i + 1, l'.set j d, true, by omega, by omega, by go_num, rfl, (HO'.out.store j d HD.out.1).drew', (HB'.out.setCell (p := ⟨g, j, none⟩) hbg _).drew, ?_⟩
              rw [HJ.out.1]
              refine HT'.out.turn hi32 HBIT.out (by rw [HL.out]; exact hfl) d ?_
              rw [← HJ.out.1, ← HJ.out.2]
              exact HD.out.2
            case measure => simp [intOf]; omega
        · have hx : (((i : Int) < 32) ∧ ¬ ((f : Int) + (i : Int) < 8 * (len : Int))) ∨ ¬ ((i : Int) < 32) := by omega
          have hne : (U (Crc.sum l') != U (Crc.sum l)) = t := by
            rw [U_eq]
            have := HT'.out.seen
            cases t
            · rw [this.2 rfl]; simp
            · exact bne_iff_ne.2 (fun e => by simpa using this.1 e)
          have hck : checkOf (l' ++ bytesOf (Crc.sum l)) = if t then 24 else 0 := by
            rw [checkOf_append]
            have := HT'.out.seen
            cases t
            · rw [if_pos (this.2 rfl).symm]; rfl
            · rw [if_neg (fun e => by simpa using this.1 e.symm)]; rfl
          have HCK := Lib.hid hck
          clear hin hck
          cases t
          all_goals
            rcases hx with ⟨hi1, hi2⟩ | hi1
            all_goals
              go_wp2_with fail
              refine (sum_any _ _ _ _ _ HO'.out.slice hm).mono ?_
              rintro e w' ⟨rfl, rfl⟩
              go_wp2_with fail
              refine (bytes_any _ _).mono ?_
              rintro e w11 ⟨a11, rfl, hs11, hb11⟩
              have HO11 := Lib.hid (HO'.out.kept hb11)
              have HB11 := Lib.hid (HB'.out.trans (hb11.mono HB'.out.size))
              have HS11 := Lib.hid hs11
              clear hb11 hs11 HB' HO' hne
              go_wp2_with (at_builtin; refine append_bytes _ rfl (.tmp 97) (.tmp 99) rfl w.heap.size _ len l' rfl HO11.out a11 4 4 _ rfl HS11.out (fun e => by subst e; exact absurd HS11.out.none_nil (by decide)) (by omega) HB11.out.size ?_; intro v12 w12 ho12 hg12 hat12)
              obtain ⟨g12, cap12, rfl, hbg12, hlt12, hc12, hs12⟩ := ho12.form (by omega)
              have HB12 : Hid (Below w.heap.size w w12) := Lib.hid (HB11.out.grown hg12 HB11.out.size (fun k e => (HO11.out.2.2.lt k e).1))
              clear ho12 hg12 hat12
              refine (check_any _ _ _ _ _ hs12 (by omega) hc12).mono ?_
              rintro e w13 ⟨rfl, hb13⟩
              rw [HCK.out]
              have HB13 := Lib.hid (HB12.out.trans (hb13.mono HB12.out.size))
              clear hb13 hs12 HB12 HB11 HO11 HS11 HCK
              go_wp2_with fail
              refine (awake_any _).mono ?_
              rintro e w14 ⟨rfl, hb14⟩
              have HB14 := Lib.hid (HB13.out.trans (hb14.mono HB13.out.size))
              clear hb14 HB13
              go_wp2
              go_ret
              exact ⟨rfl, HB14.out⟩

theorem crcWhole_walk (a : Option Addr) (len cap : Nat) (l : List Int) (from_ : Int) (bits : BitVec 32) (w : World) (hs : Sl w a len l) (hnil : a = none → cap = 0) :
    Calls Try.prog 7 #[.slice a len cap, .int .i64 from_, .int .u32 (U bits)] w fun e w' => e = .returned (.bool true) ∧ Below w.heap.size w w' := by
  by_cases h1 : 300 < len
  · exact whole_big a len cap from_ bits w h1
  · exact whole_main a len cap l from_ bits w hs hnil (by omega)
end Go.Proofs.Ytjbcflbhaehncaa

/-
  The walk of the law CrcParts: it returns true, and writes nothing that was there.
-/
import Derived.Test.YtjbcflbhaehncaaCheckWalk
import Derived.Test.YtjbcflbhaehncaaArgs
namespace Go.Proofs.Ytjbcflbhaehncaa
open Go.RowKit
open Crc (U U_lo U_hi bv)

/-- A slice of whole numbers that came in: cell i holds zs's i-th number. -/
def Nums (w : World) (a : Option Addr) (len : Nat) (zs : List Int) : Prop :=
  zs.length = len ∧ (∀ z ∈ zs, -9223372036854775808 ≤ z ∧ z < 9223372036854775808) ∧ ∀ k, k < len → ∃ b off, a = some ⟨b, off, none⟩ ∧ b < w.heap.size ∧ w.cell? ⟨b, off + k, none⟩ = some (.int .i64 (zs.getD k 0))

theorem Nums.below {w w' : World} {a : Option Addr} {len : Nat} {zs : List Int} (h : Nums w a len zs) (hb : Below w.heap.size w w') : Nums w' a len zs :=
  ⟨h.1, h.2.1, fun k hk => by
    obtain ⟨b, off, e, hlt, hc⟩ := h.2.2 k hk
    exact ⟨b, off, e, Nat.lt_of_lt_of_le hlt hb.size, (hb.cell (p := ⟨b, off + k, none⟩) hlt).trans hc⟩⟩

theorem nums_of_row {w : World} {a : Option Addr} {len cap : Nat} {zs : List Int} (h : IsRow .i64 w a len cap zs) : Nums w a len (zs.take len) := by
  rcases h with ⟨rfl, rfl, rfl, rfl⟩ | ⟨x, rfl, hl, hm, hz, hcell, hwz⟩
  · exact ⟨rfl, (by intro z hz; simp at hz), fun k hk => by omega⟩
  · refine ⟨by rw [List.length_take]; omega, fun z hz => wf_i64 (hwz z (List.mem_of_mem_take hz)), fun k hk => ?_⟩
    obtain ⟨b, off, spot⟩ := x
    have hc := hcell k (by omega)
    have hspot : spot = none := by
      have hc0 := hcell 0 (by omega)
      simpa [Addr.add] using World.cell?_spot hc0
    subst hspot
    have e : (⟨b, off, none⟩ : Addr).add k = ⟨b, off + k, none⟩ := by
      unfold Addr.add
      by_cases h : k = 0
      · subst h; simp
      · simp [h]
    rw [e] at hc
    refine ⟨b, off, rfl, block_lt_of_cell hc, ?_⟩
    rw [getD_take zs len k hk]
    exact hc

/-- Bytes wherever they begin: the slice from 'at' on. -/
theorem Sl.none_nil {w : World} {len : Nat} {l : List Int} (h : Sl w none len l) : len = 0 := by
  rcases h.2.2 with h0 | ⟨b, off, e, _⟩
  · exact h0
  · cases e

theorem sl_nil (w : World) (a : Option Addr) : Sl w a 0 [] := ⟨rfl, (by intro z hz; cases hz), .inl rfl⟩

theorem elem22 : Try.prog.elem 22 = 5 := by kernel_rfl
theorem size5 (w : World) : (sizeOf 5).run Try.prog w = .ok 1 w := by kernel_rfl
theorem run_cut (a : Option Addr) (len cap p n : Nat) (hp : p + n ≤ len) (hcap : len ≤ cap) (w' : World) :
   (Instr.slice 22 (.slice a len cap) (some (.int .i64 p)) (some (.int .i64 ((p : Int) + (n : Int)))) none).run Try.prog w' = .ok (.slice (if cap = p then a else a.map (·.add p)) n (cap - p)) w' := by
  rw [run_slice_lh (P := Try.prog) w' 22 a len cap (by rw [elem22]; exact Try.underlying22) .i64 .i64 p ((p : Int) + (n : Int)) (by omega) (by omega) (by omega)]
  rw [elem22, size5]
  have e1 : ((p : Int) + (n : Int)).toNat = p + n := by omega
  simp only [Result.andThen, sliced, e1, Int.toNat_natCast, Nat.mul_one, Nat.add_sub_cancel_left]
theorem modq (z m : Int) (h0 : 0 < m) (h1 : m < 100000) : ∃ q : Nat, (wrap64 (z.tmod m + m)).tmod m = (q : Int) ∧ (q : Int) < m := by
  have h2 : z.tmod m < m := Int.tmod_lt_of_pos z h0
  have h3 : -m < z.tmod m := by
    have := Int.tmod_lt_of_pos (-z) h0
    rw [Int.neg_tmod] at this
    omega
  have hw : wrap64 (z.tmod m + m) = z.tmod m + m := by unfold wrap64; omega
  rw [hw, Int.tmod_eq_emod_of_nonneg (by omega)]
  have h4 := Int.emod_nonneg (z.tmod m + m) (show m ≠ 0 by omega)
  have h5 := Int.emod_lt_of_pos (z.tmod m + m) h0
  exact ⟨((z.tmod m + m) % m).toNat, by omega, by omega⟩

theorem sl_sub {w : World} {a : Option Addr} {len : Nat} {l : List Int} (h : Sl w a len l) (p n : Nat) (hp : p + n ≤ len) : Sl w (Option.map (fun x => x.add p) a) n ((l.drop p).take n) := by
  obtain ⟨h1, h2, h3⟩ := h
  refine ⟨by rw [List.length_take, List.length_drop]; omega, fun z hz => h2 z (List.mem_of_mem_drop (List.mem_of_mem_take hz)), ?_⟩
  by_cases h0 : n = 0
  · exact .inl h0
  · rcases h3 with h3 | ⟨b, off, rfl, hlt, hc⟩
    · omega
    · refine .inr ⟨b, off + p, ?_, hlt, fun i hi => ?_⟩
      · simp only [Option.map_some, Addr.add]
        by_cases hp0 : p = 0
        · subst hp0; simp
        · simp [hp0]
      · rw [show ((l.drop p).take n).getD i 0 = l.getD (p + i) 0 from by simp only [List.getD_eq_getElem?_getD, List.getElem?_take, hi, if_true, List.getElem?_drop], Nat.add_assoc]
        exact hc (p + i) (by omega)


/-- A slice of bytes cut: where the part begins, and what it reads as. -/
theorem cut_run {w : World} {a : Option Addr} {len cap : Nat} {l : List Int} (h : Sl w a len l) (p n : Nat) (hp : p + n ≤ len) (hcap : len ≤ cap) :
    ∃ a', (∀ w' : World, (Instr.slice 22 (.slice a len cap) (some (.int .i64 p)) (some (.int .i64 ((p : Int) + (n : Int)))) none).run Try.prog w' = .ok (.slice a' n (cap - p)) w') ∧ Sl w a' n ((l.drop p).take n) := by
  refine ⟨_, fun w' => run_cut a len cap p n hp hcap w', ?_⟩
  by_cases hc : cap = p
  · obtain rfl : n = 0 := by omega
    rw [List.take_zero]
    exact sl_nil _ _
  · rw [if_neg hc]
    exact sl_sub h p n hp

theorem take_add (l : List Int) (p n : Nat) : l.take (p + n) = l.take p ++ (l.drop p).take n := List.take_add

/-- The sum of one part more. -/
theorem sum_part (l : List Int) (p n : Nat) : Crc.update (Crc.sum (l.take p)) ((l.drop p).take n) = Crc.sum (l.take (p + n)) := by
  rw [take_add]; unfold Crc.sum; rw [Crc.update_append]

theorem comb_part (l : List Int) (p n : Nat) (hn : p + n ≤ l.length) : Crc.steps (n : Int).toNat (Crc.sum (l.take p)) ^^^ Crc.sum ((l.drop p).take n) = Crc.sum (l.take (p + n)) := by
  rw [take_add, Crc.sum_append, Int.toNat_natCast, List.length_take, List.length_drop, Nat.min_eq_left (by omega)]

set_option maxHeartbeats 1000000 in
theorem parts_big1 (a : Option Addr) (len cap : Nat) (a2 : Option Addr) (len2 cap2 : Nat) (w : World) (hbig : 1000 < len) :
    Calls Try.prog 5 #[.slice a len cap, .slice a2 len2 cap2] w fun e w' => e = .returned (.bool true) ∧ Below w.heap.size w w' := by
  have hb : (1000 : Int) < (len : Int) := by omega
  clear hbig
  go_enter Try.func5, Try.ntmps5
  go_wp2_with fail
  refine (awake_any _).mono ?_
  rintro e w1 ⟨rfl, hb1⟩
  have HB1 := Lib.hid hb1
  clear hb1
  go_wp2
  go_ret
  exact ⟨rfl, HB1.out⟩

set_option maxHeartbeats 1000000 in
theorem parts_big2 (a : Option Addr) (len cap : Nat) (a2 : Option Addr) (len2 cap2 : Nat) (w : World) (hle : len ≤ 1000) (hbig : 60 < len2) :
    Calls Try.prog 5 #[.slice a len cap, .slice a2 len2 cap2] w fun e w' => e = .returned (.bool true) ∧ Below w.heap.size w w' := by
  have hb : ¬ (1000 : Int) < (len : Int) := by omega
  have hb2 : (60 : Int) < (len2 : Int) := by omega
  have hd : decide ((1000 : Int) < (len : Int)) = false := by simp; omega
  clear hbig hle
  go_enter Try.func5, Try.ntmps5
  go_wp2_with fail
  refine (awake_any _).mono ?_
  rintro e w1 ⟨rfl, hb1⟩
  have HB1 := Lib.hid hb1
  clear hb1
  go_wp2
  go_ret
  exact ⟨rfl, HB1.out⟩

/-- What the loop over the parts keeps. -/
def PartsAt (w : World) (l : List Int) (len len2 : Nat) (vp vx vy vi : Value) (wr : World) : Prop :=
  ∃ (i p : Nat), i ≤ len2 + 1 ∧ p ≤ len ∧ vi = .int .i64 i ∧ vp = .int .i64 p ∧ vx = .int .u32 (U (Crc.sum (l.take p))) ∧ vy = .int .u32 (U (Crc.sum (l.take p))) ∧ Below w.heap.size w wr ∧ (i = len2 + 1 → p = len)

set_option maxHeartbeats 2000000 in
theorem parts_main (a : Option Addr) (len cap : Nat) (l : List Int) (a2 : Option Addr) (len2 cap2 : Nat) (zs : List Int) (w : World) (hs : Sl w a len l) (hz : Nums w a2 len2 zs) (hcap : len ≤ cap) (hle : len ≤ 1000) (hle2 : len2 ≤ 60) :
    Calls Try.prog 5 #[.slice a len cap, .slice a2 len2 cap2] w fun e w' => e = .returned (.bool true) ∧ Below w.heap.size w w' := by
  have hm : len ≤ 140737488351232 := by omega
  have hb : ¬ (1000 : Int) < (len : Int) := by omega
  have hb2 : ¬ (60 : Int) < (len2 : Int) := by omega
  have hd : decide ((1000 : Int) < (len : Int)) = false := by simp; omega
  have hd2 : decide ((60 : Int) < (len2 : Int)) = false := by simp; omega
  have H0 : Hid (U (Crc.sum []) = 0) := Lib.hid (by rw [show Crc.sum [] = 0#32 from by decide]; exact zero_U)
  have HS := Lib.hid hs
  have HZ := Lib.hid hz
  clear hs hz
  go_enter Try.func5, Try.ntmps5
  go_wp2_with fail
  refine (sum_any _ _ _ [] _ (sl_nil _ _) (by decide)).mono ?_
  rintro e w' ⟨rfl, rfl⟩
  rw [H0.out]
  go_wp2_with fail
  refine (sum_any _ _ _ [] _ (sl_nil _ _) (by decide)).mono ?_
  rintro e w' ⟨rfl, rfl⟩
  rw [H0.out]
  go_wp2_with fail
  go_loopw [5, 6, 7, 8] (fun vp vx vy vi wr => PartsAt w l len len2 vp vx vy vi wr) (fun _ _ _ vi _ => len2 + 1 - (intOf vi).toNat)
  case atStart => exact ⟨0, 0, by omega, by omega, rfl, rfl, by rw [List.take_zero, H0.out], by rw [List.take_zero, H0.out], Below.refl _ _, fun h => by omega⟩
  case round =>
    obtain ⟨i, p, hi, hp, rfl, rfl, rfl, rfl, HB, HE⟩ := hrel
    have HE' := Lib.hid HE
    have HB' := Lib.hid HB
    clear HB HE
    have hlen : Hid (l.length = len) := Lib.hid HS.out.1
    by_cases hin : i < len2
    · obtain ⟨b2, o2, rfl, hlt2, hc2⟩ := (HZ.out.below HB'.out).2.2 i hin
      obtain ⟨z, hz⟩ : ∃ z, z = zs.getD i 0 := ⟨_, rfl⟩
      rw [← hz] at hc2
      obtain ⟨q, hq, hq50⟩ := modq z 50 (by decide) (by decide)
      clear hz
      have hii : (i : Int) ≤ (len2 : Int) := by omega
      have hii2 : (i : Int) < (len2 : Int) := by omega
      have hp0 : (p : Int) ≤ (len : Int) := by omega
      by_cases hqn : q < len - p
      · have h1 : (q : Int) < (len : Int) - (p : Int) := by omega
        obtain ⟨a', hrun, hsl⟩ := cut_run (HS.out.below HB'.out) (cap := cap) p q (by omega) hcap
        have HSL := Lib.hid hsl
        have HP : Hid (p + q ≤ len) := Lib.hid (by omega)
        clear hsl hqn
        go_wp2_with fail
        refine (update_any _ _ _ _ _ _ HSL.out (by have := HP.out; omega)).mono ?_
        rintro e w' ⟨rfl, rfl⟩
        rw [sum_part]
        go_wp2_with fail
        refine (sum_any _ _ _ _ _ HSL.out (by have := HP.out; omega)).mono ?_
        rintro e w' ⟨rfl, rfl⟩
        go_wp2_with fail
        refine (combine_int _ _ _ (by omega) (by have := HP.out; omega) _).mono ?_
        rintro e w' ⟨rfl, hb'⟩
        rw [comb_part l p q (by rw [hlen.out]; exact HP.out)]
        have HB2 := Lib.hid (HB'.out.trans (hb'.mono HB'.out.size))
        clear hb' HB' hrun
        go_wp2
        go_roundw
        case rel => exact ⟨i + 1, p + q, by omega, HP.out, by go_num, by go_num, rfl, rfl, HB2.out, fun h => by omega⟩
        case measure => simp [intOf]; omega
      · obtain ⟨r, hr⟩ : ∃ r, p + r = len := ⟨len - p, by omega⟩
        have h1 : ¬ (q : Int) < (r : Int) := by omega
        clear hqn
        obtain ⟨a', hrun, hsl⟩ := cut_run (HS.out.below HB'.out) (cap := cap) p r (by omega) hcap
        have HSL := Lib.hid hsl
        have HP : Hid (p + r = len) := Lib.hid hr
        have hlp : (len : Int) - (p : Int) = (r : Int) := by omega
        clear hsl hr
        go_wp2_with fail
        refine (update_any _ _ _ _ _ _ HSL.out (by have := HP.out; omega)).mono ?_
        rintro e w' ⟨rfl, rfl⟩
        rw [sum_part]
        go_wp2_with fail
        refine (sum_any _ _ _ _ _ HSL.out (by have := HP.out; omega)).mono ?_
        rintro e w' ⟨rfl, rfl⟩
        go_wp2_with fail
        refine (combine_int _ _ _ (by omega) (by have := HP.out; omega) _).mono ?_
        rintro e w' ⟨rfl, hb'⟩
        rw [comb_part l p r (by rw [hlen.out]; have := HP.out; omega)]
        have HB2 := Lib.hid (HB'.out.trans (hb'.mono HB'.out.size))
        clear hb' HB' hrun
        go_wp2
        go_roundw
        case rel => exact ⟨i + 1, p + r, by omega, by have := HP.out; omega, by go_num, by go_num, rfl, rfl, HB2.out, fun h => HP.out⟩
        case measure => simp [intOf]; omega
    · by_cases hie : i = len2
      · obtain ⟨r, hr⟩ : ∃ r, p + r = len := ⟨len - p, by omega⟩
        have hii : (i : Int) ≤ (len2 : Int) := by omega
        have hii2 : ¬ (i : Int) < (len2 : Int) := by omega
        have hp0 : (p : Int) ≤ (len : Int) := by omega
        clear hie hin
        obtain ⟨a', hrun, hsl⟩ := cut_run (HS.out.below HB'.out) (cap := cap) p r (by omega) hcap
        have HSL := Lib.hid hsl
        have HP : Hid (p + r = len) := Lib.hid hr
        have hlp : (len : Int) - (p : Int) = (r : Int) := by omega
        clear hsl hr
        go_wp2_with fail
        refine (update_any _ _ _ _ _ _ HSL.out (by have := HP.out; omega)).mono ?_
        rintro e w' ⟨rfl, rfl⟩
        rw [sum_part]
        go_wp2_with fail
        refine (sum_any _ _ _ _ _ HSL.out (by have := HP.out; omega)).mono ?_
        rintro e w' ⟨rfl, rfl⟩
        go_wp2_with fail
        refine (combine_int _ _ _ (by omega) (by have := HP.out; omega) _).mono ?_
        rintro e w' ⟨rfl, hb'⟩
        rw [comb_part l p r (by rw [hlen.out]; have := HP.out; omega)]
        have HB2 := Lib.hid (HB'.out.trans (hb'.mono HB'.out.size))
        clear hb' HB' hrun
        go_wp2
        go_roundw
        case rel => exact ⟨i + 1, p + r, by omega, by have := HP.out; omega, by go_num, by go_num, rfl, rfl, HB2.out, fun h => HP.out⟩
        case measure => simp [intOf]; omega
      · have hp' := HE'.out (by omega)
        subst hp'
        have hii : ¬ (i : Int) ≤ (len2 : Int) := by omega
        have hS : Hid (l.take p = l) := Lib.hid (List.take_of_length_le (by rw [HS.out.1]; exact Nat.le_refl _))
        rw [hS.out]
        clear hie hin
        go_wp2_with fail
        refine (sum_any _ _ _ _ _ (HS.out.below HB'.out) hm).mono ?_
        rintro e w' ⟨rfl, rfl⟩
        go_wp2_with fail
        refine (awake_any _).mono ?_
        rintro e w2 ⟨rfl, hb2⟩
        have HB2 := Lib.hid (HB'.out.trans (hb2.mono HB'.out.size))
        clear hb2 HB'
        go_wp2
        go_ret
        exact ⟨rfl, HB2.out⟩

theorem crcParts_walk (a : Option Addr) (len cap : Nat) (l : List Int) (a2 : Option Addr) (len2 cap2 : Nat) (zs : List Int) (w : World) (hs : Sl w a len l) (hz : Nums w a2 len2 zs) (hcap : len ≤ cap) :
    Calls Try.prog 5 #[.slice a len cap, .slice a2 len2 cap2] w fun e w' => e = .returned (.bool true) ∧ Below w.heap.size w w' := by
  by_cases h1 : 1000 < len
  · exact parts_big1 a len cap a2 len2 cap2 w h1
  · by_cases h2 : 60 < len2
    · exact parts_big2 a len cap a2 len2 cap2 w (by omega) h2
    · exact parts_main a len cap l a2 len2 cap2 zs w hs hz hcap (by omega) (by omega)
end Go.Proofs.Ytjbcflbhaehncaa

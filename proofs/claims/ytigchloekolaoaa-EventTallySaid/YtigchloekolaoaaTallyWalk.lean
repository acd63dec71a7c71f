/-
  The walk of the law EventTally: it returns true, and writes nothing that was there.
-/
import Derived.Test.YtigchloekolaoaaTally
import Derived.Test.YtigchloekolaoaaTallyPlain
import Derived.Test.YtigchloekolaoaaCuts
import Derived.Test.YtigchloekolaoaaEventTallyTypes
namespace Go.Proofs.Ytigchloekolaoaa.PEventTally
open Go.RowKit Go.Proofs.YtigchloekolaoaaW.PrintWords Go.Proofs.YtigchloekolaoaaW.PrintLast Go.Proofs.YtigchloekolaoaaW.PrintMore
open Go.MuLone

theorem few_calls (A : Option Addr) (cc : Nat) (l : List S46) (w : World) (hr : Kd.C k46 w A l.length l) (hc : l.length ≤ cc) :
    Calls Try.prog 9 #[.slice A l.length cc] w fun e w' => e = .returned (.bool (few21B l)) ∧ Below w.heap.size w w' := by
  obtain ⟨k, hk⟩ := (few21_ev l).rounds
  exact forebaylaw21_Few.calls k A cc l _ w hr hc hk

theorem awake_calls (w : World) : Calls Try.prog 10 #[] w fun e w' => e = .returned (.bool true) ∧ Below w.heap.size w w' := by
  obtain ⟨k, hk⟩ := awake_ev.rounds
  exact forebaylaw21_awake.calls k true w hk

set_option maxHeartbeats 4000000 in
theorem tally_small (A B : Option Addr) (ca cb n : Nat) (l : List S46) (w : World) (hr : Kd.C k46 w A l.length l) (hc : l.length ≤ ca) (hf : few21B l = false) :
    Calls Try.prog 6 #[.slice A l.length ca, .slice B n cb] w fun e w' => e = .returned (.bool true) ∧ Below w.heap.size w w' := by
  go_enter Try.func6, Try.ntmps6
  go_wp2_with fail
  refine (add_nil _ _).mono ?_
  rintro e w' ⟨rfl, rfl⟩
  go_wp2_with fail
  refine (counts_nil _).mono ?_
  rintro e w1 ⟨rfl, hb1⟩
  have HB1 := Lib.hid hb1
  have HR := Lib.hid (Kd.C_below hr hb1)
  clear hb1 hr
  go_wp2_with fail
  refine (few_calls A ca l _ HR.out hc).mono ?_
  rintro e w2 ⟨rfl, hb2⟩
  rw [hf]
  have HB2 := Lib.hid (HB1.out.trans (hb2.mono HB1.out.size))
  clear hb2
  go_wp2_with fail
  refine (awake_calls _).mono ?_
  rintro e w3 ⟨rfl, hb3⟩
  have HB3 := Lib.hid (HB2.out.trans (hb3.mono HB2.out.size))
  clear hb3
  go_wp2
  go_ret
  exact ⟨rfl, HB3.out⟩
set_option maxHeartbeats 4000000 in
theorem tally_long (A B : Option Addr) (ca cb n : Nat) (l : List S46) (w : World) (hr : Kd.C k46 w A l.length l) (hc : l.length ≤ ca) (hf : few21B l = true) (hn : 60 < n) :
    Calls Try.prog 6 #[.slice A l.length ca, .slice B n cb] w fun e w' => e = .returned (.bool true) ∧ Below w.heap.size w w' := by
  have hd : (60 : Int) < (n : Int) := by omega
  clear hn
  go_enter Try.func6, Try.ntmps6
  go_wp2_with fail
  refine (add_nil _ _).mono ?_
  rintro e w' ⟨rfl, rfl⟩
  go_wp2_with fail
  refine (counts_nil _).mono ?_
  rintro e w1 ⟨rfl, hb1⟩
  have HB1 := Lib.hid hb1
  have HR := Lib.hid (Kd.C_below hr hb1)
  clear hb1 hr
  go_wp2_with fail
  refine (few_calls A ca l _ HR.out hc).mono ?_
  rintro e w2 ⟨rfl, hb2⟩
  rw [hf]
  have HB2 := Lib.hid (HB1.out.trans (hb2.mono HB1.out.size))
  clear hb2
  go_wp2_with fail
  refine (awake_calls _).mono ?_
  rintro e w3 ⟨rfl, hb3⟩
  have HB3 := Lib.hid (HB2.out.trans (hb3.mono HB2.out.size))
  clear hb3
  go_wp2
  go_ret
  exact ⟨rfl, HB3.out⟩

theorem IsTally.below {W W' : World} {T : Nat} {c : C7} (h : IsTally W T c) (hb : Below W.heap.size W W') : IsTally W' T c :=
  (hb.block T (Array.getElem?_eq_some_iff.1 h).1).trans h

theorem add_at (T : Nat) (c : C7) (A : Option Addr) (n cc : Nat) (l : List S46) (w0 w : World) (ht : IsTally w T c) (hT : w0.heap.size ≤ T) (hb : Below w0.heap.size w0 w) (hr : Kd.C k46 w0 A n l) (hcc : n ≤ cc) (hl : n ≤ 1000) :
    Calls Try.prog 20 #[.pointer (some ⟨T, 0, none⟩), .slice A n cc] w fun e w' => e = .returned (.int .i64 0) ∧ IsTally w' T (add7 c (cnt l zero7)) ∧ Below w0.heap.size w0 w' := by
  obtain rfl := hr.1
  exact add_any T c A cc l w0 w ht hT hb hr hcc hl

theorem count_at (A : Option Addr) (n cc : Nat) (l : List S46) (w : World) (hr : Kd.C k46 w A n l) (hc : n ≤ cc) (hl : n ≤ 1000) :
    Calls Try.prog 11 #[.slice A n cc] w fun e w' => e = .returned (.agg #[.int .i64 (cnt l zero7).1, .int .i64 (cnt l zero7).2.1, .int .i64 (cnt l zero7).2.2.1, .int .i64 (cnt l zero7).2.2.2.1, .int .i64 (cnt l zero7).2.2.2.2.1, .int .i64 (cnt l zero7).2.2.2.2.2.1, .int .i64 (cnt l zero7).2.2.2.2.2.2]) ∧ Below w.heap.size w w' := by
  obtain rfl := hr.1
  exact count_calls A cc l w hr hc hl

theorem cut_low' (A : Option Addr) (n cap p q : Nat) (hp : p + q ≤ n) (hc : n ≤ cap) :
    ∃ A', (∀ W : World, (Instr.slice 22 (.slice A n cap) none (some (.int .i64 ((p : Int) + (q : Int)))) none).run Try.prog W = .ok (.slice A' (p + q) cap) W) ∧
      ∀ (w : World) (xs : List S46), Kd.C k46 w A n xs → Kd.C k46 w A' (p + q) (xs.take (p + q)) := by
  have h := cut_low (P := Try.prog) k46 22 46 Try.underlying22 cutInfo46 A n cap (p + q) hp hc
  rw [Int.natCast_add] at h
  exact h

/-- What the loop over the parts keeps. -/
def TallyAt (w : World) (l : List S46) (T np : Nat) (va vi : Value) (wr : World) : Prop :=
  ∃ (i p : Nat), i ≤ np + 1 ∧ p ≤ l.length ∧ vi = .int .i64 i ∧ va = .int .i64 p ∧ IsTally wr T (cnt (l.take p) zero7) ∧ Below w.heap.size w wr ∧ (i = np + 1 → p = l.length)

set_option maxHeartbeats 4000000 in
theorem tally_main (A B : Option Addr) (ca cb : Nat) (l : List S46) (zs : List Int) (w : World) (hr : Kd.C k46 w A l.length l) (hc : l.length ≤ ca) (hz : (Kd.int .i64).C w B zs.length zs) (hf : few21B l = true) (hn : zs.length ≤ 60) :
    Calls Try.prog 6 #[.slice A l.length ca, .slice B zs.length cb] w fun e w' => e = .returned (.bool true) ∧ Below w.heap.size w w' := by
  have hd : ¬ (60 : Int) < (zs.length : Int) := by omega
  have hl60 := few_short l hf
  have hl : Hid (l.length ≤ 60) := Lib.hid hl60
  have HR := Lib.hid hr
  have HZ := Lib.hid hz
  clear hr hz hl60
  go_enter Try.func6, Try.ntmps6
  go_wp2_with fail
  refine (add_nil _ _).mono ?_
  rintro e w' ⟨rfl, rfl⟩
  go_wp2_with fail
  refine (counts_nil _).mono ?_
  rintro e w1 ⟨rfl, hb1⟩
  have HB1 := Lib.hid hb1
  clear hb1
  go_wp2_with fail
  refine (few_calls A ca l _ (Kd.C_below HR.out HB1.out) hc).mono ?_
  rintro e w2 ⟨rfl, hb2⟩
  rw [hf]
  have HB2 := Lib.hid (HB1.out.trans (hb2.mono HB1.out.size))
  clear hb2 HB1
  go_wp2_with fail
  refine (new_any _).mono ?_
  rintro e w3 ⟨rfl, hw3⟩
  have HT3 : Hid (IsTally w3 w2.heap.size zero7) := Lib.hid (by rw [hw3]; exact heap_alloc_new w2 _)
  have HB3 : Hid (Below w.heap.size w w3) := Lib.hid (by rw [hw3]; exact HB2.out.alloc HB2.out.size _)
  have HTn : Hid (w.heap.size ≤ w2.heap.size) := Lib.hid HB2.out.size
  generalize w2.heap.size = T at *
  clear hw3 HB2
  go_wp2_with fail
  refine (counts_any T zero7 _ HT3.out).mono ?_
  rintro e w4 ⟨rfl, ht4, hg4⟩
  have HT4 := Lib.hid ht4
  have HB4 : Hid (Below w.heap.size w w4) := Lib.hid (HB3.out.grown hg4 HB3.out.size (fun k hk => by cases hk; exact HTn.out))
  clear ht4 hg4 HT3 HB3
  go_wp2_with fail
  go_loopw [7, 8] (fun va vi wr => TallyAt w l T zs.length va vi wr) (fun _ vi _ => zs.length + 1 - (intOf vi).toNat)
  case atStart => exact ⟨0, 0, by omega, by omega, rfl, rfl, by rw [List.take_zero]; exact HT4.out, HB4.out, fun h => by omega⟩
  case round =>
    obtain ⟨i, p, hi, hp, rfl, rfl, HT, HB, HE⟩ := hrel
    have HE' := Lib.hid HE
    have HB' := Lib.hid HB
    have HT' := Lib.hid HT
    clear HB HE HT
    by_cases hin : i < zs.length
    · obtain ⟨ad, rfl, hc2⟩ := Kd.at_int (Kd.C_below HZ.out HB'.out) (i : Int) (by omega) (by omega)
      obtain ⟨z, hz⟩ : ∃ z, z = rd zs (i : Int) := ⟨_, rfl⟩
      rw [← hz, Int.toNat_natCast] at hc2
      obtain ⟨q, hq, hq50⟩ := modq z 9 (by decide) (by decide)
      clear hz
      have hii : (i : Int) ≤ (zs.length : Int) := by omega
      have hii2 : (i : Int) < (zs.length : Int) := by omega
      have hp0 : (p : Int) ≤ (l.length : Int) := by omega
      have hl60 : (l.length : Int) ≤ 60 := by have := hl.out; omega
      by_cases hqn : q < l.length - p
      · have h1 : (q : Int) < (l.length : Int) - (p : Int) := by omega
        have HP : Hid (p + q ≤ l.length) := Lib.hid (by omega)
        obtain ⟨A1, hrun, hcut⟩ := cut_mid (P := Try.prog) k46 22 46 Try.underlying22 cutInfo46 A l.length ca p q HP.out hc
        obtain ⟨A2, hrun2, hcut2⟩ := cut_low' A l.length ca p q HP.out hc
        have HC1 := Lib.hid (hcut _ _ HR.out)
        have HC2 := Lib.hid (hcut2 _ _ HR.out)
        clear hcut hcut2
        go_wp2_with fail
        refine (add_at T _ A1 q (ca - p) _ w _ HT'.out HTn.out HB'.out HC1.out (by have := HP.out; omega) (by have := HP.out; have := hl.out; omega)).mono ?_
        rintro e w5 ⟨rfl, ht5, hb5⟩
        rw [cnt_part l p q] at ht5
        clear HT' HB'
        have HT' : Hid (IsTally w5.drew T (cnt (l.take (p + q)) zero7)) := Lib.hid ht5
        have HB' := Lib.hid hb5.drew
        clear ht5 hb5
        go_wp2_with fail
        go_region_law (first | (go_simp; go_at_call 21; refine (counts_any T _ _ HT'.out).mono ?_; rintro e w6 ⟨rfl, ht6, hg6⟩; have hb6 := HB'.out.grown hg6 HB'.out.size (fun k hk => by cases hk; exact HTn.out); clear HT' HB'; have HT' := Lib.hid ht6; have HB' := Lib.hid hb6; clear ht6 hg6 hb6) | (go_simp; go_at_call 11; refine (count_at A2 (p + q) ca _ _ (Kd.C_below HC2.out HB'.out) (by have := HP.out; omega) (by have := HP.out; have := hl.out; omega)).mono ?_; rintro e w6 ⟨rfl, hb6⟩; have ht6 := HT'.out.below hb6; have hb7 := HB'.out.trans (hb6.mono HB'.out.size); clear HT' HB'; have HT' := Lib.hid ht6; have HB' := Lib.hid hb7; clear ht6 hb6 hb7))
        all_goals (
          go_wp2
          go_roundw
          case rel => exact ⟨i + 1, p + q, by omega, HP.out, by go_num, by go_num, HT'.out, HB'.out, fun h => by omega⟩
          case measure => simp [intOf]; omega)
      · obtain ⟨r, hr'⟩ : ∃ r, p + r = l.length := ⟨l.length - p, by omega⟩
        have h1 : ¬ (q : Int) < (r : Int) := by omega
        have hlp : (l.length : Int) - (p : Int) = (r : Int) := by omega
        have HL : Hid (p + r = l.length) := Lib.hid hr'
        clear hqn
        have HP : Hid (p + r ≤ l.length) := Lib.hid (by rw [hr']; exact Nat.le_refl _)
        clear hr'
        obtain ⟨A1, hrun, hcut⟩ := cut_mid (P := Try.prog) k46 22 46 Try.underlying22 cutInfo46 A l.length ca p r HP.out hc
        obtain ⟨A2, hrun2, hcut2⟩ := cut_low' A l.length ca p r HP.out hc
        have HC1 := Lib.hid (hcut _ _ HR.out)
        have HC2 := Lib.hid (hcut2 _ _ HR.out)
        clear hcut hcut2
        go_wp2_with fail
        refine (add_at T _ A1 r (ca - p) _ w _ HT'.out HTn.out HB'.out HC1.out (by have := HP.out; omega) (by have := HP.out; have := hl.out; omega)).mono ?_
        rintro e w5 ⟨rfl, ht5, hb5⟩
        rw [cnt_part l p r] at ht5
        clear HT' HB'
        have HT' : Hid (IsTally w5.drew T (cnt (l.take (p + r)) zero7)) := Lib.hid ht5
        have HB' := Lib.hid hb5.drew
        clear ht5 hb5
        go_wp2_with fail
        go_region_law (first | (go_simp; go_at_call 21; refine (counts_any T _ _ HT'.out).mono ?_; rintro e w6 ⟨rfl, ht6, hg6⟩; have hb6 := HB'.out.grown hg6 HB'.out.size (fun k hk => by cases hk; exact HTn.out); clear HT' HB'; have HT' := Lib.hid ht6; have HB' := Lib.hid hb6; clear ht6 hg6 hb6) | (go_simp; go_at_call 11; refine (count_at A2 (p + r) ca _ _ (Kd.C_below HC2.out HB'.out) (by have := HP.out; omega) (by have := HP.out; have := hl.out; omega)).mono ?_; rintro e w6 ⟨rfl, hb6⟩; have ht6 := HT'.out.below hb6; have hb7 := HB'.out.trans (hb6.mono HB'.out.size); clear HT' HB'; have HT' := Lib.hid ht6; have HB' := Lib.hid hb7; clear ht6 hb6 hb7))
        all_goals (
          go_wp2
          go_roundw
          case rel => exact ⟨i + 1, p + r, by omega, HP.out, by go_num, by go_num, HT'.out, HB'.out, fun h => HL.out⟩
          case measure => simp [intOf]; omega)
    · by_cases hie : i = zs.length
      · obtain ⟨r, hr'⟩ : ∃ r, p + r = l.length := ⟨l.length - p, by omega⟩
        have hii : (i : Int) ≤ (zs.length : Int) := by omega
        have hii2 : ¬ (i : Int) < (zs.length : Int) := by omega
        have hp0 : (p : Int) ≤ (l.length : Int) := by omega
        have hl60 : (l.length : Int) ≤ 60 := by have := hl.out; omega
        have hlp : (l.length : Int) - (p : Int) = (r : Int) := by omega
        have HL : Hid (p + r = l.length) := Lib.hid hr'
        have HI : Hid (i + 1 ≤ zs.length + 1 ∧ zs.length + 1 - (i + 1) < zs.length + 1 - i) := Lib.hid (by omega)
        clear hie hin
        have HP : Hid (p + r ≤ l.length) := Lib.hid (by rw [hr']; exact Nat.le_refl _)
        clear hr'
        obtain ⟨A1, hrun, hcut⟩ := cut_mid (P := Try.prog) k46 22 46 Try.underlying22 cutInfo46 A l.length ca p r HP.out hc
        obtain ⟨A2, hrun2, hcut2⟩ := cut_low' A l.length ca p r HP.out hc
        have HC1 := Lib.hid (hcut _ _ HR.out)
        have HC2 := Lib.hid (hcut2 _ _ HR.out)
        clear hcut hcut2
        go_wp2_with fail
        refine (add_at T _ A1 r (ca - p) _ w _ HT'.out HTn.out HB'.out HC1.out (by have := HP.out; omega) (by have := HP.out; have := hl.out; omega)).mono ?_
        rintro e w5 ⟨rfl, ht5, hb5⟩
        rw [cnt_part l p r] at ht5
        clear HT' HB'
        have HT' : Hid (IsTally w5.drew T (cnt (l.take (p + r)) zero7)) := Lib.hid ht5
        have HB' := Lib.hid hb5.drew
        clear ht5 hb5
        go_wp2_with fail
        go_region_law (first | (go_simp; go_at_call 21; refine (counts_any T _ _ HT'.out).mono ?_; rintro e w6 ⟨rfl, ht6, hg6⟩; have hb6 := HB'.out.grown hg6 HB'.out.size (fun k hk => by cases hk; exact HTn.out); clear HT' HB'; have HT' := Lib.hid ht6; have HB' := Lib.hid hb6; clear ht6 hg6 hb6) | (go_simp; go_at_call 11; refine (count_at A2 (p + r) ca _ _ (Kd.C_below HC2.out HB'.out) (by have := HP.out; omega) (by have := HP.out; have := hl.out; omega)).mono ?_; rintro e w6 ⟨rfl, hb6⟩; have ht6 := HT'.out.below hb6; have hb7 := HB'.out.trans (hb6.mono HB'.out.size); clear HT' HB'; have HT' := Lib.hid ht6; have HB' := Lib.hid hb7; clear ht6 hb6 hb7))
        all_goals (
          go_wp2
          go_roundw
          case rel => exact ⟨i + 1, p + r, HI.out.1, HP.out, by go_num, by go_num, HT'.out, HB'.out, fun h => HL.out⟩
          case measure => (simp [intOf]; have := HI.out.2; omega))
      · have hp' := HE'.out (by omega)
        subst hp'
        have hii : ¬ (i : Int) ≤ (zs.length : Int) := by omega
        have hl60 : (l.length : Int) ≤ 60 := by have := hl.out; omega
        have HLL : Hid (l.take l.length = l) := Lib.hid (List.take_of_length_le (Nat.le_refl _))
        rw [HLL.out] at HT'
        clear hie hin
        go_wp2_with fail
        refine (counts_any T _ _ HT'.out).mono ?_
        rintro e w6 ⟨rfl, ht6, hg6⟩
        have hb6 := HB'.out.grown hg6 HB'.out.size (fun k hk => by cases hk; exact HTn.out)
        clear HT' HB'
        have HB' := Lib.hid hb6
        clear ht6 hg6 hb6
        go_wp2_with fail
        refine (count_calls A ca l _ (Kd.C_below HR.out HB'.out) hc (by have := hl.out; omega)).mono ?_
        rintro e w7 ⟨rfl, hb7⟩
        have HB2 := Lib.hid (HB'.out.trans (hb7.mono HB'.out.size))
        clear hb7 HB'
        go_wp2_with fail
        refine (awake_calls _).mono ?_
        rintro e w8 ⟨rfl, hb8⟩
        have HB3 := Lib.hid (HB2.out.trans (hb8.mono HB2.out.size))
        clear hb8 HB2
        go_wp2
        go_ret
        exact ⟨rfl, HB3.out⟩

theorem eventTally_walk (A B : Option Addr) (ca cb : Nat) (l : List S46) (zs : List Int) (w : World) (hr : Kd.C k46 w A l.length l) (hc : l.length ≤ ca) (hz : (Kd.int .i64).C w B zs.length zs) :
    Calls Try.prog 6 #[.slice A l.length ca, .slice B zs.length cb] w fun e w' => e = .returned (.bool true) ∧ Below w.heap.size w w' := by
  cases hf : few21B l with
  | false => exact tally_small A B ca cb zs.length l w hr hc hf
  | true =>
    by_cases hn : 60 < zs.length
    · exact tally_long A B ca cb zs.length l w hr hc hf hn
    · exact tally_main A B ca cb l zs w hr hc hz hf (by omega)

theorem cells3 : (Kd.int .i64).sz = Try.prog.cellsOf 3 := by
  have : Try.prog.cellsOf 3 = 1 := by kernel_rfl
  rw [this]; rfl
theorem opens43 : Opens Try.prog (Kd.slice 3 (Kd.int .i64)) 43 := opens_slice Try.underlying43 cells3 (opens_int Try.underlying3)
end Go.Proofs.Ytigchloekolaoaa.PEventTally

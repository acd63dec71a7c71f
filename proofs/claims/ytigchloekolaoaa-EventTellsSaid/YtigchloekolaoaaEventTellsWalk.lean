/-
  The walk of EventTells.
-/
import Derived.Test.YtigchloekolaoaaZ
import Derived.Test.YtigchloekolaoaaEventTellsRefs
import Derived.Test.YtigchloekolaoaaEventTellsRefCodes
import Derived.Test.YtigchloekolaoaaEventTellsCodesWalk
import Derived.Lib.Hide
import Derived.Deep.RegionWith
namespace Go.Proofs.Ytigchloekolaoaa.PEventTells
open Go.RowKit Go.Proofs.YtigchloekolaoaaW.PrintWords Go.Proofs.YtigchloekolaoaaW.PrintLast Go.Proofs.YtigchloekolaoaaW.PrintMore

theorem few_calls (A : Option Addr) (cc : Nat) (l : List S46) (w : World) (hr : Kd.C k46 w A l.length l) (hc : l.length ≤ cc) :
    Calls Try.prog 9 #[.slice A l.length cc] w fun e w' => e = .returned (.bool (few21B l)) ∧ Below w.heap.size w w' := by
  obtain ⟨k, hk⟩ := (few21_ev l).rounds
  exact forebaylaw21_Few.calls k A cc l _ w hr hc hk

theorem awake_calls (w : World) : Calls Try.prog 10 #[] w fun e w' => e = .returned (.bool true) ∧ Below w.heap.size w w' := by
  obtain ⟨k, hk⟩ := awake_ev.rounds
  exact forebaylaw21_awake.calls k true w hk

section
variable {l : List S46} (hf : few21B l = true)
include hf
theorem mets_few : (mets l).length ≤ 2400 ∧ ∀ m ∈ mets l, Sm m := by
  obtain ⟨h1, h2⟩ := few21_sm hf
  refine ⟨?_, mets_sm (fun e he => (h2 e he).2)⟩
  have := mets_len l (fun e he => (h2 e he).1)
  omega

theorem refmets_calls (A : Option Addr) (cc : Nat) (w : World) (hr : Kd.C k46 w A l.length l) (hc : l.length ≤ cc) :
    Calls Try.prog 15 #[.slice A l.length cc] w fun e w' => ∃ A' c', e = .returned (.slice A' (mets l).length c') ∧ (mets l).length ≤ c' ∧ Kd.C k36 w' A' (mets l).length (mets l) ∧ Below w.heap.size w w' := by
  have h1 := few21_sm hf
  have h2 := mets_few hf
  obtain ⟨k, hk⟩ := (refmets_ev l h1.1 (by omega)).rounds
  refine (forebayref21_Metrics.calls k (fun k => k < w.heap.size) A cc l _ w (Kd.V_mk hc (Kd.C_F k46_heap hr)) hk).mono ?_
  rintro e w' ⟨v, rfl, hv, hb⟩
  obtain ⟨A', c', rfl, hl, hC⟩ := Kd.N_reads hv
  exact ⟨A', c', rfl, hl, hC, hb⟩

theorem evmets_calls (A : Option Addr) (cc : Nat) (w : World) (hr : Kd.C k46 w A l.length l) (hc : l.length ≤ cc) :
    Calls Try.prog 16 #[.slice A l.length cc] w fun e w' => ∃ A' c', e = .returned (.slice A' (mets l).length c') ∧ (mets l).length ≤ c' ∧ Kd.C k36 w' A' (mets l).length (mets l) ∧ Below w.heap.size w w' := by
  have h1 := few21_sm hf
  have h2 := mets_few hf
  obtain ⟨k, hk⟩ := (evmets_ev l h1.1 h1.2 (by omega)).rounds
  refine (event_Metrics.calls k A cc l _ w hr hc hk).mono ?_
  rintro e w' ⟨v, rfl, hv, hb⟩
  obtain ⟨A', c', rfl, hl, hC⟩ := Kd.S_reads hv
  exact ⟨A', c', rfl, hl, hC, hb⟩
end

theorem equal_calls (A : Option Addr) (cc : Nat) (B : Option Addr) (cb : Nat) (l : List S36) (w : World) (hl : l.length ≤ 2400) (hs : ∀ m ∈ l, Sm m) (hr : Kd.C k36 w A l.length l) (hc : l.length ≤ cc) (hr2 : Kd.C k36 w B l.length l) (hc2 : l.length ≤ cb) :
    Calls Try.prog 17 #[.slice A l.length cc, .slice B l.length cb] w fun e w' => e = .returned (.bool true) ∧ Below w.heap.size w w' := by
  obtain ⟨k, hk⟩ := (eq8_ev l (by omega) hs).rounds
  exact forebayref08_Equal.calls k A cc l B cb l true w hr hc hr2 hc2 hk

theorem ints_of_R {w : World} {base : Nat} {t : TypeId} {ok : Nat → Prop} {v : Value} {l : List Int} (h : Kd.R (Kd.int .i64) t w base ok v l) : ∃ A c, v = .slice A l.length c ∧ IntsAt w A l.length l := by
  rcases Nat.eq_zero_or_pos l.length with h0 | h0
  · obtain ⟨A, c, e⟩ := Kd.R_slice h
    exact ⟨A, c, e, rfl, .inl h0⟩
  · obtain ⟨g, cap, rfl, _, hlt, _⟩ := Kd.R_form h h0
    refine ⟨_, cap, rfl, rfl, .inr ⟨g, 0, rfl, hlt, fun i hi => ?_⟩⟩
    obtain ⟨c, _, hM, hcc, _⟩ := Kd.R_elem h 0 (i : Int) (by omega) (by omega)
    rw [Int.toNat_natCast] at hM hcc
    have hc : c = [.int .i64 (l.getD i 0)] := hM
    subst hc
    have := hcc 0 _ rfl
    rw [show (Kd.int .i64).sz = 1 from rfl, Nat.mul_one, Nat.add_zero] at this
    rw [Nat.zero_add]
    exact this

theorem refcodes_calls (A : Option Addr) (cc : Nat) (l : List S46) (w : World) (hl : l.length ≤ 60) (hr : Kd.C k46 w A l.length l) (hc : l.length ≤ cc) :
    Calls Try.prog 24 #[.slice A l.length cc] w fun e w' => ∃ A' c' B' d', e = .returned (.tuple #[.slice A' (codesOf l).length c', .slice B' (codesOf l).length d']) ∧ IntsAt w' A' (codesOf l).length (codesOf l) ∧
      IntsAt w' B' (codesOf l).length ((codesOf l).map fun c => (cntC l c : Int)) ∧ Below w.heap.size w w' := by
  obtain ⟨k, hk⟩ := (refcodes_ev l (by omega)).rounds
  refine (forebayref21_Codes.calls k A cc l _ _ w hr hc hk).mono ?_
  rintro e w' ⟨v0, v1, rfl, h0, h1, hb⟩
  obtain ⟨A', c', rfl, i0⟩ := ints_of_R h0
  obtain ⟨B', d', rfl, i1⟩ := ints_of_R h1
  rw [List.length_map] at i1 ⊢
  exact ⟨A', c', B', d', rfl, i0, i1, hb⟩

section
variable {a b : List S46} (hf : few21B a = true)
include hf
theorem few_smE : a.length ≤ 60 ∧ ∀ e ∈ a, SmE e := few21_sm hf

theorem evequal_calls (A B : Option Addr) (ca cb : Nat) (w : World) (hra : Kd.C k46 w A a.length a) (hca : a.length ≤ ca) (hrb : Kd.C k46 w B b.length b) (hcb : b.length ≤ cb) :
    Calls Try.prog 19 #[.slice A a.length ca, .slice B b.length cb] w fun e w' => e = .returned (.bool (allB evB a b)) ∧ Below w.heap.size w w' := by
  have h := few_smE hf
  obtain ⟨k, hk⟩ := (evs_ev a b (by omega) h.2).rounds
  exact event_Equal.calls k A ca a B cb b _ w hra hca hrb hcb hk

theorem refequal_calls (A B : Option Addr) (ca cb : Nat) (w : World) (hra : Kd.C k46 w A a.length a) (hca : a.length ≤ ca) (hrb : Kd.C k46 w B b.length b) (hcb : b.length ≤ cb) :
    Calls Try.prog 25 #[.slice A a.length ca, .slice B b.length cb] w fun e w' => e = .returned (.bool (allB evB a b)) ∧ Below w.heap.size w w' := by
  have h := few_smE hf
  obtain ⟨k, hk⟩ := (ref21_ev a b (by omega) h.2).rounds
  exact forebayref21_Equal.calls k A ca a B cb b _ w hra hca hrb hcb hk

theorem covers_calls (A : Option Addr) (ca : Nat) (z : Int) (w : World) (hra : Kd.C k46 w A a.length a) (hca : a.length ≤ ca) :
    Calls Try.prog 18 #[.slice A a.length ca, .int .i64 z] w fun e w' => e = .returned (.bool (covB z 0 a)) ∧ Below w.heap.size w w' := by
  have h := few_smE hf
  obtain ⟨k, hk⟩ := (cov_ev a z (by omega)).rounds
  exact event_Covers.calls k A ca a z _ w hra hca hk

theorem refcovers_calls (A : Option Addr) (ca : Nat) (z : Int) (w : World) (hra : Kd.C k46 w A a.length a) (hca : a.length ≤ ca) :
    Calls Try.prog 26 #[.slice A a.length ca, .int .i64 z] w fun e w' => e = .returned (.bool (covB z 0 a)) ∧ Below w.heap.size w w' := by
  have h := few_smE hf
  obtain ⟨k, hk⟩ := (refcov_ev a z (by omega)).rounds
  refine (forebayref21_Covers.calls k A ca a z _ w hra hca hk).mono ?_
  rintro e w' ⟨rfl, hd⟩
  exact ⟨rfl, hd.below⟩
end

set_option maxRecDepth 100000 in
set_option maxHeartbeats 4000000 in
theorem eventTells_small (A : Option Addr) (ca : Nat) (a : List S46) (B : Option Addr) (cb : Nat) (b : List S46) (x : Int) (w : World) (hra : Kd.C k46 w A a.length a) (hca : a.length ≤ ca) (hrb : Kd.C k46 w B b.length b) (hcb : b.length ≤ cb) (hf : few21B a = false ∨ few21B b = false) :
    Calls Try.prog 7 #[.slice A a.length ca, .slice B b.length cb, .int .i64 x] w fun e w' => e = .returned (.bool true) ∧ Below w.heap.size w w' := by
  have HA := Lib.hid hra
  have HB := Lib.hid hrb
  clear hra hrb
  go_enter Try.func7, Try.ntmps7
  go_wp2_with fail
  refine (few_calls A ca a _ HA.out hca).mono ?_
  rintro e w1 ⟨rfl, hb1⟩
  have HB1 := Lib.hid hb1
  clear hb1
  cases ha : few21B a with
  | false =>
    clear hf ha
    go_wp2_with fail
    refine (awake_calls _).mono ?_
    rintro e w2 ⟨rfl, hb2⟩
    have HB2 := Lib.hid (HB1.out.trans (hb2.mono HB1.out.size))
    clear hb2
    go_wp2_with fail
    go_ret
    exact ⟨rfl, HB2.out⟩
  | true =>
    have hb := hf.resolve_left (by rw [ha]; decide)
    have HFB := Lib.hid hb
    clear hf ha hb
    go_wp2_with fail
    refine (few_calls B cb b _ (Kd.C_below HB.out HB1.out) hcb).mono ?_
    rintro e w2 ⟨rfl, hb2⟩
    rw [HFB.out]
    have HB2 := Lib.hid (HB1.out.trans (hb2.mono HB1.out.size))
    clear hb2
    go_wp2_with fail
    refine (awake_calls _).mono ?_
    rintro e w3 ⟨rfl, hb3⟩
    have HB3 := Lib.hid (HB2.out.trans (hb3.mono HB2.out.size))
    clear hb3
    go_wp2_with fail
    go_ret
    exact ⟨rfl, HB3.out⟩

set_option maxRecDepth 100000 in
set_option maxHeartbeats 4000000 in
theorem eventTells_in (A : Option Addr) (ca n : Nat) (a : List S46) (B : Option Addr) (cb m : Nat) (b : List S46) (x : Int) (w : World) (hn : a.length = n) (hm : b.length = m) (hra : Kd.C k46 w A a.length a) (hca : a.length ≤ ca) (hrb : Kd.C k46 w B b.length b) (hcb : b.length ≤ cb) (hfa : few21B a = true) (hfb : few21B b = true) (hwa : ∀ e ∈ a, W64 e.f4) :
    Calls Try.prog 7 #[.slice A n ca, .slice B m cb, .int .i64 x] w fun e w' => e = .returned (.bool true) ∧ Below w.heap.size w w' := by
  have HA := Lib.hid hra
  have HB := Lib.hid hrb
  have HFA := Lib.hid hfa
  have HFB := Lib.hid hfb
  have HW := Lib.hid hwa
  have HSM := Lib.hid (few_smE hfa).1
  have HM := Lib.hid (mets_few hfa)
  clear hra hrb hfa hfb hwa
  subst hn
  subst hm
  go_enter Try.func7, Try.ntmps7
  go_wp2_with fail
  refine (few_calls A ca a _ HA.out hca).mono ?_
  rintro e w1 ⟨rfl, hb1⟩
  rw [HFA.out]
  have HB1 := Lib.hid hb1
  clear hb1
  go_wp2_with fail
  refine (few_calls B cb b _ (Kd.C_below HB.out HB1.out) hcb).mono ?_
  rintro e w2 ⟨rfl, hb2⟩
  rw [HFB.out]
  have HB2 := Lib.hid (HB1.out.trans (hb2.mono HB1.out.size))
  clear hb2 HB1
  go_wp2_with fail
  refine (codes_calls A a.length ca a w2 rfl (Kd.C_below HA.out HB2.out) (by have := HSM.out; omega) HW.out).mono ?_
  rintro e w3 ⟨A3, c3, B3, d3, rfl, i3, j3, hb3⟩
  have HB3 := Lib.hid (HB2.out.trans (hb3.mono HB2.out.size))
  have HI3 := Lib.hid i3
  have HJ3 := Lib.hid j3
  clear hb3 i3 j3 HB2
  go_wp2_with fail
  refine (refcodes_calls A ca a w3 HSM.out (Kd.C_below HA.out HB3.out) hca).mono ?_
  rintro e w4 ⟨A4, c4, B4, d4, rfl, i4, j4, hb4⟩
  have HB4 := Lib.hid (HB3.out.trans (hb4.mono HB3.out.size))
  have HI4 := Lib.hid i4
  have HJ4 := Lib.hid j4
  have HK3 := Lib.hid (HI3.out.below hb4)
  have HL3 := Lib.hid (HJ3.out.below hb4)
  have hmx := (codes_all a).2.2
  clear hb4 i4 j4 HB3 HI3 HJ3
  generalize (codesOf a).map (fun c => (cntC a c : Int)) = qs at HJ4 HL3
  generalize (codesOf a).length = N at HI4 HJ4 HK3 HL3 hmx ⊢
  generalize codesOf a = cs at HI4 HK3
  have hN : N ≤ 60 := by have := HSM.out; omega
  clear hmx
  go_wp2_with fail
  go_loopw [11] (fun vi wr => ∃ i j : Nat, vi = .int .i64 i ∧ i ≤ N ∧ wr = w4.drewN j) (fun vi _ => N - (intOf vi).toNat)
  case atStart => exact ⟨0, 0, rfl, Nat.zero_le _, (World.drewN_zero _).symm⟩
  case round =>
    obtain ⟨i, j, rfl, hi, rfl⟩ := hrel
    by_cases hin : i < N
    · have hii : (i : Int) < (N : Int) := by omega
      obtain ⟨b1, o1, rfl, _, f1⟩ := HK3.out.2.resolve_left (by omega)
      obtain ⟨b2, o2, rfl, _, f2⟩ := HL3.out.2.resolve_left (by omega)
      obtain ⟨b3, o3, rfl, _, f3⟩ := HI4.out.2.resolve_left (by omega)
      obtain ⟨b4, o4, rfl, _, f4⟩ := HJ4.out.2.resolve_left (by omega)
      have s1 := f1 i hin
      have s2 := f2 i hin
      have s3 := f3 i hin
      have s4 := f4 i hin
      generalize cs.getD i 0 = z at s1 s3
      generalize qs.getD i 0 = q at s2 s4
      clear f1 f2 f3 f4 HK3 HL3 HI4 HJ4
      go_wp2_with fail
      refine region_plain (fun W => W.cell? ⟨b1, o1 + i, none⟩ = some (.int .i64 z) ∧ W.cell? ⟨b2, o2 + i, none⟩ = some (.int .i64 q) ∧ W.cell? ⟨b3, o3 + i, none⟩ = some (.int .i64 z) ∧ W.cell? ⟨b4, o4 + i, none⟩ = some (.int .i64 q)) 99 (by kernel_rfl) ?_
      have hS : (w4.drewN j).drew.cell? ⟨b1, o1 + i, none⟩ = some (.int .i64 z) ∧ (w4.drewN j).drew.cell? ⟨b2, o2 + i, none⟩ = some (.int .i64 q) ∧ (w4.drewN j).drew.cell? ⟨b3, o3 + i, none⟩ = some (.int .i64 z) ∧ (w4.drewN j).drew.cell? ⟨b4, o4 + i, none⟩ = some (.int .i64 q) := ⟨s1, s2, s3, s4⟩
      refine z_take (i := 0) (v := ?_) rfl (by kernel_rfl) (by kernel_rfl) (by kernel_rfl) (by kernel_rfl) (fun _ _ _ h => h) (Or.inl ⟨by rfl, ?_⟩) hS ?_
      rotate_left
      · (rintro wS ⟨s1, s2, s3, s4⟩; (try simp only [List.getElem_toArray, List.getElem_cons_zero]); go_simp <;> with_reducible rfl)
      simp only [Act.put, List.getElem_toArray, List.getElem_cons_zero, List.setIfInBounds_toArray, List.set_cons_zero, List.set_cons_succ]
      refine z_take (i := 1) (v := ?_) rfl (by kernel_rfl) (by kernel_rfl) (by kernel_rfl) (by kernel_rfl) (fun _ _ _ h => h) (Or.inl ⟨by rfl, ?_⟩) hS ?_
      rotate_left
      · (rintro wS ⟨s1, s2, s3, s4⟩; (try simp only [List.getElem_toArray, List.getElem_cons_zero, List.getElem_cons_succ]); go_simp <;> with_reducible rfl)
      simp only [Act.put, List.getElem_toArray, List.getElem_cons_zero, List.getElem_cons_succ, List.setIfInBounds_toArray, List.set_cons_zero, List.set_cons_succ]
      refine z_take (i := 2) (v := ?_) rfl (by kernel_rfl) (by kernel_rfl) (by kernel_rfl) (by kernel_rfl) (fun _ _ _ h => h) (Or.inl ⟨by rfl, ?_⟩) hS ?_
      rotate_left
      · (rintro wS ⟨s1, s2, s3, s4⟩; (try simp only [List.getElem_toArray, List.getElem_cons_zero, List.getElem_cons_succ]); go_simp <;> with_reducible rfl)
      simp only [Act.put, List.getElem_toArray, List.getElem_cons_zero, List.getElem_cons_succ, List.setIfInBounds_toArray, List.set_cons_zero, List.set_cons_succ]
      refine z_take (i := 3) (v := ?_) rfl (by kernel_rfl) (by kernel_rfl) (by kernel_rfl) (by kernel_rfl) (fun _ _ _ h => h) (Or.inl ⟨by rfl, ?_⟩) hS ?_
      rotate_left
      · (rintro wS ⟨s1, s2, s3, s4⟩; (try simp only [List.getElem_toArray, List.getElem_cons_zero, List.getElem_cons_succ]); go_simp <;> with_reducible rfl)
      simp only [Act.put, List.getElem_toArray, List.getElem_cons_zero, List.getElem_cons_succ, List.setIfInBounds_toArray, List.set_cons_zero, List.set_cons_succ]
      refine z_take (i := 4) (v := ?_) rfl (by kernel_rfl) (by kernel_rfl) (by kernel_rfl) (by kernel_rfl) (fun _ _ _ h => h) (Or.inl ⟨by rfl, ?_⟩) hS ?_
      rotate_left
      · (rintro wS ⟨s1, s2, s3, s4⟩; (try simp only [List.getElem_toArray, List.getElem_cons_zero, List.getElem_cons_succ]); go_simp <;> with_reducible rfl)
      simp only [Act.put, List.getElem_toArray, List.getElem_cons_zero, List.getElem_cons_succ, List.setIfInBounds_toArray, List.set_cons_zero, List.set_cons_succ]
      refine z_take (i := 5) (v := ?_) rfl (by kernel_rfl) (by kernel_rfl) (by kernel_rfl) (by kernel_rfl) (fun _ _ _ h => h) (Or.inl ⟨by rfl, ?_⟩) hS ?_
      rotate_left
      · (rintro wS ⟨s1, s2, s3, s4⟩; (try simp only [List.getElem_toArray, List.getElem_cons_zero, List.getElem_cons_succ]); go_simp <;> with_reducible rfl)
      simp only [Act.put, List.getElem_toArray, List.getElem_cons_zero, List.getElem_cons_succ, List.setIfInBounds_toArray, List.set_cons_zero, List.set_cons_succ]
      refine z_take (i := 6) (v := ?_) rfl (by kernel_rfl) (by kernel_rfl) (by kernel_rfl) (by kernel_rfl) (fun _ _ _ h => h) (Or.inl ⟨by rfl, ?_⟩) hS ?_
      rotate_left
      · (rintro wS ⟨s1, s2, s3, s4⟩; (try simp only [List.getElem_toArray, List.getElem_cons_zero, List.getElem_cons_succ]); go_simp <;> with_reducible rfl)
      simp only [Act.put, List.getElem_toArray, List.getElem_cons_zero, List.getElem_cons_succ, List.setIfInBounds_toArray, List.set_cons_zero, List.set_cons_succ]
      refine z_take (i := 7) (v := ?_) rfl (by kernel_rfl) (by kernel_rfl) (by kernel_rfl) (by kernel_rfl) (fun _ _ _ h => h) (Or.inl ⟨by rfl, ?_⟩) hS ?_
      rotate_left
      · (rintro wS ⟨s1, s2, s3, s4⟩; (try simp only [List.getElem_toArray, List.getElem_cons_zero, List.getElem_cons_succ]); go_simp <;> with_reducible rfl)
      simp only [Act.put, List.getElem_toArray, List.getElem_cons_zero, List.getElem_cons_succ, List.setIfInBounds_toArray, List.set_cons_zero, List.set_cons_succ]
      refine z_take (i := 8) (v := ?_) rfl (by kernel_rfl) (by kernel_rfl) (by kernel_rfl) (by kernel_rfl) (fun _ _ _ h => h) (Or.inl ⟨by rfl, ?_⟩) hS ?_
      rotate_left
      · (rintro wS ⟨s1, s2, s3, s4⟩; (try simp only [List.getElem_toArray, List.getElem_cons_zero, List.getElem_cons_succ]); go_simp <;> with_reducible rfl)
      simp only [Act.put, List.getElem_toArray, List.getElem_cons_zero, List.getElem_cons_succ, List.setIfInBounds_toArray, List.set_cons_zero, List.set_cons_succ]
      refine z_take (i := 9) (v := ?_) rfl (by kernel_rfl) (by kernel_rfl) (by kernel_rfl) (by kernel_rfl) (fun _ _ _ h => h) (Or.inl ⟨by rfl, ?_⟩) hS ?_
      rotate_left
      · (rintro wS ⟨s1, s2, s3, s4⟩; (try simp only [List.getElem_toArray, List.getElem_cons_zero, List.getElem_cons_succ]); go_simp <;> with_reducible rfl)
      simp only [Act.put, List.getElem_toArray, List.getElem_cons_zero, List.getElem_cons_succ, List.setIfInBounds_toArray, List.set_cons_zero, List.set_cons_succ]
      refine z_take (i := 10) (v := ?_) rfl (by kernel_rfl) (by kernel_rfl) (by kernel_rfl) (by kernel_rfl) (fun _ _ _ h => h) (Or.inl ⟨by rfl, ?_⟩) hS ?_
      rotate_left
      · (rintro wS ⟨s1, s2, s3, s4⟩; (try simp only [List.getElem_toArray, List.getElem_cons_zero, List.getElem_cons_succ]); go_simp <;> with_reducible rfl)
      simp only [Act.put, List.getElem_toArray, List.getElem_cons_zero, List.getElem_cons_succ, List.setIfInBounds_toArray, List.set_cons_zero, List.set_cons_succ]
      refine z_take (i := 11) (v := ?_) rfl (by kernel_rfl) (by kernel_rfl) (by kernel_rfl) (by kernel_rfl) (fun _ _ _ h => h) (Or.inl ⟨by rfl, ?_⟩) hS ?_
      rotate_left
      · (rintro wS ⟨s1, s2, s3, s4⟩; (try simp only [List.getElem_toArray, List.getElem_cons_zero, List.getElem_cons_succ]); go_simp <;> with_reducible rfl)
      simp only [Act.put, List.getElem_toArray, List.getElem_cons_zero, List.getElem_cons_succ, List.setIfInBounds_toArray, List.set_cons_zero, List.set_cons_succ]
      refine z_take (i := 12) (v := ?_) rfl (by kernel_rfl) (by kernel_rfl) (by kernel_rfl) (by kernel_rfl) (fun _ _ _ h => h) (Or.inl ⟨by rfl, ?_⟩) hS ?_
      rotate_left
      · (rintro wS ⟨s1, s2, s3, s4⟩; (try simp only [List.getElem_toArray, List.getElem_cons_zero, List.getElem_cons_succ]); go_simp <;> with_reducible rfl)
      simp only [Act.put, List.getElem_toArray, List.getElem_cons_zero, List.getElem_cons_succ, List.setIfInBounds_toArray, List.set_cons_zero, List.set_cons_succ]
      refine z_take (i := 13) (v := ?_) rfl (by kernel_rfl) (by kernel_rfl) (by kernel_rfl) (by kernel_rfl) (fun _ _ _ h => h) (Or.inl ⟨by rfl, ?_⟩) hS ?_
      rotate_left
      · (rintro wS ⟨s1, s2, s3, s4⟩; (try simp only [List.getElem_toArray, List.getElem_cons_zero, List.getElem_cons_succ]); go_simp <;> with_reducible rfl)
      simp only [Act.put, List.getElem_toArray, List.getElem_cons_zero, List.getElem_cons_succ, List.setIfInBounds_toArray, List.set_cons_zero, List.set_cons_succ]
      refine z_take (i := 14) (v := ?_) rfl (by kernel_rfl) (by kernel_rfl) (by kernel_rfl) (by kernel_rfl) (fun _ _ _ h => h) (Or.inl ⟨by rfl, ?_⟩) hS ?_
      rotate_left
      · (rintro wS ⟨s1, s2, s3, s4⟩; (try simp only [List.getElem_toArray, List.getElem_cons_zero, List.getElem_cons_succ]); go_simp <;> with_reducible rfl)
      simp only [Act.put, List.getElem_toArray, List.getElem_cons_zero, List.getElem_cons_succ, List.setIfInBounds_toArray, List.set_cons_zero, List.set_cons_succ]
      refine z_take (i := 15) (v := ?_) rfl (by kernel_rfl) (by kernel_rfl) (by kernel_rfl) (by kernel_rfl) (fun _ _ _ h => h) (Or.inl ⟨by rfl, ?_⟩) hS ?_
      rotate_left
      · (rintro wS ⟨s1, s2, s3, s4⟩; (try simp only [List.getElem_toArray, List.getElem_cons_zero, List.getElem_cons_succ]); go_simp <;> with_reducible rfl)
      simp only [Act.put, List.getElem_toArray, List.getElem_cons_zero, List.getElem_cons_succ, List.setIfInBounds_toArray, List.set_cons_zero, List.set_cons_succ]
      refine z_take (i := 16) (v := ?_) rfl (by kernel_rfl) (by kernel_rfl) (by kernel_rfl) (by kernel_rfl) (fun _ _ _ h => h) (Or.inl ⟨by rfl, ?_⟩) hS ?_
      rotate_left
      · (rintro wS ⟨s1, s2, s3, s4⟩; (try simp only [List.getElem_toArray, List.getElem_cons_zero, List.getElem_cons_succ]); go_simp <;> with_reducible rfl)
      simp only [Act.put, List.getElem_toArray, List.getElem_cons_zero, List.getElem_cons_succ, List.setIfInBounds_toArray, List.set_cons_zero, List.set_cons_succ]
      refine z_take (i := 17) (v := ?_) rfl (by kernel_rfl) (by kernel_rfl) (by kernel_rfl) (by kernel_rfl) (fun _ _ _ h => h) (Or.inl ⟨by rfl, ?_⟩) hS ?_
      rotate_left
      · (rintro wS ⟨s1, s2, s3, s4⟩; (try simp only [List.getElem_toArray, List.getElem_cons_zero, List.getElem_cons_succ]); go_simp <;> with_reducible rfl)
      simp only [Act.put, List.getElem_toArray, List.getElem_cons_zero, List.getElem_cons_succ, List.setIfInBounds_toArray, List.set_cons_zero, List.set_cons_succ]
      refine z_take (i := 18) (v := ?_) rfl (by kernel_rfl) (by kernel_rfl) (by kernel_rfl) (by kernel_rfl) (fun _ _ _ h => h) (Or.inl ⟨by rfl, ?_⟩) hS ?_
      rotate_left
      · (rintro wS ⟨s1, s2, s3, s4⟩; (try simp only [List.getElem_toArray, List.getElem_cons_zero, List.getElem_cons_succ]); go_simp <;> with_reducible rfl)
      simp only [Act.put, List.getElem_toArray, List.getElem_cons_zero, List.getElem_cons_succ, List.setIfInBounds_toArray, List.set_cons_zero, List.set_cons_succ]
      refine z_take (i := 19) (v := ?_) rfl (by kernel_rfl) (by kernel_rfl) (by kernel_rfl) (by kernel_rfl) (fun _ _ _ h => h) (Or.inl ⟨by rfl, ?_⟩) hS ?_
      rotate_left
      · (rintro wS ⟨s1, s2, s3, s4⟩; (try simp only [List.getElem_toArray, List.getElem_cons_zero, List.getElem_cons_succ]); go_simp <;> with_reducible rfl)
      simp only [Act.put, List.getElem_toArray, List.getElem_cons_zero, List.getElem_cons_succ, List.setIfInBounds_toArray, List.set_cons_zero, List.set_cons_succ]
      refine z_done (by kernel_rfl) ?_ _
      go_wp2_with fail
      go_roundw
      case rel => exact ⟨i + 1, j + 1, by go_num, by omega, rfl⟩
      case measure => simp [intOf]; omega
    · obtain rfl : i = N := by omega
      clear HK3 HL3 HI4 HJ4
      have HB5 : Hid (Below w.heap.size w (w4.drewN j)) := Lib.hid ⟨HB4.out.os, HB4.out.tape, HB4.out.output, HB4.out.size, HB4.out.block⟩
      clear HB4
      generalize w4.drewN j = w5 at HB5 ⊢
      go_wp2_with fail
      refine (evequal_calls HFA.out A B ca cb w5 (Kd.C_below HA.out HB5.out) hca (Kd.C_below HB.out HB5.out) hcb).mono ?_
      rintro e w6 ⟨rfl, hb6⟩
      have HB6 := Lib.hid (HB5.out.trans (hb6.mono HB5.out.size))
      clear hb6
      go_wp2_with fail
      refine (refequal_calls HFA.out A B ca cb w6 (Kd.C_below HA.out HB6.out) hca (Kd.C_below HB.out HB6.out) hcb).mono ?_
      rintro e w7 ⟨rfl, hb7⟩
      have HB7 := Lib.hid (HB6.out.trans (hb7.mono HB6.out.size))
      clear hb7
      generalize allB evB a b = t
      have htt : (t == t) = true := by simp
      go_wp2_with fail
      refine (evequal_calls HFA.out A A ca ca w7 (Kd.C_below HA.out HB7.out) hca (Kd.C_below HA.out HB7.out) hca).mono ?_
      rintro e w8 ⟨rfl, hb8⟩
      rw [allB_refl _ evB_refl]
      have HB8 := Lib.hid (HB7.out.trans (hb8.mono HB7.out.size))
      clear hb8 HB5 HB6 HB7
      go_wp2_with fail
      refine (evmets_calls HFA.out A ca w8 (Kd.C_below HA.out HB8.out) hca).mono ?_
      rintro e w9 ⟨A9, c9, rfl, hc9, hC9, hb9⟩
      have HB9 := Lib.hid (HB8.out.trans (hb9.mono HB8.out.size))
      have HC9 := Lib.hid hC9
      clear hb9 hC9 HB8
      go_wp2_with fail
      refine (refmets_calls HFA.out A ca w9 (Kd.C_below HA.out HB9.out) hca).mono ?_
      rintro e w10 ⟨A10, c10, rfl, hc10, hC10, hb10⟩
      have HB10 := Lib.hid (HB9.out.trans (hb10.mono HB9.out.size))
      have HEQ := Lib.hid (equal_calls A9 c9 A10 c10 (mets a) w10 HM.out.1 HM.out.2 (Kd.C_below HC9.out hb10) hc9 hC10 hc10)
      clear hb10 hC10 HB9 HC9
      go_wp2_with fail
      refine HEQ.out.mono ?_
      rintro e w11 ⟨rfl, hb11⟩
      have HB11 := Lib.hid (HB10.out.trans (hb11.mono HB10.out.size))
      clear hb11 HB10 HEQ
      go_wp2_with fail
      refine (covers_calls HFA.out A ca x w11 (Kd.C_below HA.out HB11.out) hca).mono ?_
      rintro e w12 ⟨rfl, hb12⟩
      have HB12 := Lib.hid (HB11.out.trans (hb12.mono HB11.out.size))
      clear hb12 HB11
      go_wp2_with fail
      refine (refcovers_calls HFA.out A ca x w12 (Kd.C_below HA.out HB12.out) hca).mono ?_
      rintro e w13 ⟨rfl, hb13⟩
      have HB13 := Lib.hid (HB12.out.trans (hb13.mono HB12.out.size))
      clear hb13 HB12
      generalize covB x 0 a = s
      have hss : (s == s) = true := by simp
      go_wp2_with fail
      refine (awake_calls _).mono ?_
      rintro e w14 ⟨rfl, hb14⟩
      go_wp2_with fail
      go_ret
      exact ⟨rfl, HB13.out.trans (hb14.mono HB13.out.size)⟩

theorem eventTells_walk (A : Option Addr) (ca : Nat) (a : List S46) (B : Option Addr) (cb : Nat) (b : List S46) (x : Int) (w : World) (hra : Kd.C k46 w A a.length a) (hca : a.length ≤ ca) (hrb : Kd.C k46 w B b.length b) (hcb : b.length ≤ cb) (hwa : ∀ e ∈ a, W64 e.f4) :
    Calls Try.prog 7 #[.slice A a.length ca, .slice B b.length cb, .int .i64 x] w fun e w' => e = .returned (.bool true) ∧ Below w.heap.size w w' := by
  cases hfa : few21B a with
  | false => exact eventTells_small A ca a B cb b x w hra hca hrb hcb (.inl hfa)
  | true =>
    cases hfb : few21B b with
    | false => exact eventTells_small A ca a B cb b x w hra hca hrb hcb (.inr hfb)
    | true => exact eventTells_in A ca _ a B cb _ b x w rfl rfl hra hca hrb hcb hfa hfb hwa
end Go.Proofs.Ytigchloekolaoaa.PEventTells

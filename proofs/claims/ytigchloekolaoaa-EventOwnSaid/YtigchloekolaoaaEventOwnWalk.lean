/-
  The walk of EventOwn.
-/
import Derived.Test.YtigchloekolaoaaZ
import Derived.Test.YtigchloekolaoaaEventOwnMut
import Derived.Lib.Hide
import Derived.Laws.Concat
import Derived.Deep.RegionWith
namespace Go.Proofs.Ytigchloekolaoaa.PEventOwn
open Go.RowKit Go.Proofs.YtigchloekolaoaaW.PrintWords Go.Proofs.YtigchloekolaoaaW.PrintLast Go.Proofs.YtigchloekolaoaaW.PrintMore

theorem k41_heap : Kd.Heap k41 := Kd.heap_iso _ (Kd.heap_pair Kd.heap_string Kd.heap_string)
theorem k39_heap : Kd.Heap k39 := Kd.heap_iso _ (Kd.heap_pair Kd.heap_bool (Kd.heap_pair (Kd.heap_int .u64) (Kd.heap_int .i64)))
theorem k36_heap : Kd.Heap k36 := Kd.heap_iso _ (Kd.heap_pair Kd.heap_string (Kd.heap_pair (Kd.heap_int .i64) (Kd.heap_pair (Kd.heap_slice 39 k39_heap) (Kd.heap_pair (Kd.heap_int .i64) (Kd.heap_pair (Kd.heap_slice 41 k41_heap) (Kd.heap_int .i64))))))
theorem k46_heap : Kd.Heap k46 := Kd.heap_iso _ (Kd.heap_pair (Kd.heap_int .i64) (Kd.heap_pair (Kd.heap_int .i64) (Kd.heap_pair (Kd.heap_int .i64) (Kd.heap_pair (Kd.heap_slice 36 k36_heap) (Kd.heap_pair (Kd.heap_int .i64) (Kd.heap_int .i64))))))

theorem few_calls (A : Option Addr) (cc : Nat) (l : List S46) (w : World) (hr : Kd.C k46 w A l.length l) (hc : l.length ≤ cc) :
    Calls Try.prog 9 #[.slice A l.length cc] w fun e w' => e = .returned (.bool (few21B l)) ∧ Below w.heap.size w w' := by
  obtain ⟨k, hk⟩ := (few21_ev l).rounds
  exact forebaylaw21_Few.calls k A cc l _ w hr hc hk

theorem awake_calls (w : World) : Calls Try.prog 10 #[] w fun e w' => e = .returned (.bool true) ∧ Below w.heap.size w w' := by
  obtain ⟨k, hk⟩ := awake_ev.rounds
  exact forebaylaw21_awake.calls k true w hk

section
variable {l : List S46} (hf : few21B l = true)
include hf
theorem mets_few : (mets l).length ≤ 2400 ∧ ∀ m ∈ mets l, Sm m := by
  obtain ⟨h1, h2⟩ := few21_sm hf
  refine ⟨?_, mets_sm (fun e he => (h2 e he).2)⟩
  have := mets_len l (fun e he => (h2 e he).1)
  omega

theorem refmets_calls (A : Option Addr) (cc : Nat) (w : World) (hr : Kd.C k46 w A l.length l) (hc : l.length ≤ cc) :
    Calls Try.prog 15 #[.slice A l.length cc] w fun e w' => ∃ A' c', e = .returned (.slice A' (mets l).length c') ∧ (mets l).length ≤ c' ∧ Kd.C k36 w' A' (mets l).length (mets l) ∧ Below w.heap.size w w' := by
  have h1 := few21_sm hf
  have h2 := mets_few hf
  obtain ⟨k, hk⟩ := (refmets_ev l h1.1 (by omega)).rounds
  refine (forebayref21_Metrics.calls k (fun k => k < w.heap.size) A cc l _ w (Kd.V_mk hc (Kd.C_F k46_heap hr)) hk).mono ?_
  rintro e w' ⟨v, rfl, hv, hb⟩
  obtain ⟨A', c', rfl, hl, hC⟩ := Kd.N_reads hv
  exact ⟨A', c', rfl, hl, hC, hb⟩

theorem evmets_calls (A : Option Addr) (cc : Nat) (w : World) (hr : Kd.C k46 w A l.length l) (hc : l.length ≤ cc) :
    Calls Try.prog 16 #[.slice A l.length cc] w fun e w' => ∃ A' c', e = .returned (.slice A' (mets l).length c') ∧ (mets l).length ≤ c' ∧ Kd.C k36 w' A' (mets l).length (mets l) ∧ Below w.heap.size w w' ∧
      (0 < (mets l).length → ∃ g, A' = some ⟨g, 0, none⟩ ∧ MutAt w w' 300 g (mets l).length) := by
  have h1 := few21_sm hf
  have h2 := mets_few hf
  obtain ⟨k, hk⟩ := (evmets_ev l h1.1 h1.2 (by omega)).rounds
  refine (event_Metrics.calls k A cc l _ w hr hc hk).mono ?_
  rintro e w' ⟨v, rfl, hv, hb⟩
  obtain ⟨A', c', rfl, hl, hC⟩ := Kd.S_reads hv
  refine ⟨A', c', rfl, hl, hC, hb, fun hp => ?_⟩
  obtain ⟨g, cap, e, hm⟩ := mutAt_of hv hb h2.2 hp
  cases e
  exact ⟨g, rfl, hm⟩
end

theorem copy_calls (A : Option Addr) (cc : Nat) (l : List S36) (w : World) (hl : l.length ≤ 2400) (hs : ∀ m ∈ l, Sm m) (hr : Kd.C k36 w A l.length l) (hc : l.length ≤ cc) :
    Calls Try.prog 14 #[.slice A l.length cc] w fun e w' => ∃ A' c', e = .returned (.slice A' l.length c') ∧ l.length ≤ c' ∧ Kd.C k36 w' A' l.length l ∧ Below w.heap.size w w' := by
  obtain ⟨k, hk⟩ := (copy_ev l (by omega) hs).rounds
  refine (forebayref08_Copy.calls k A cc l _ w hr hc hk).mono ?_
  rintro e w' ⟨v, rfl, hv, hb⟩
  obtain ⟨A', c', rfl, hl, hC⟩ := Kd.S_reads hv
  exact ⟨A', c', rfl, hl, hC, hb⟩

theorem equal_calls (A : Option Addr) (cc : Nat) (B : Option Addr) (cb : Nat) (l : List S36) (w : World) (hl : l.length ≤ 2400) (hs : ∀ m ∈ l, Sm m) (hr : Kd.C k36 w A l.length l) (hc : l.length ≤ cc) (hr2 : Kd.C k36 w B l.length l) (hc2 : l.length ≤ cb) :
    Calls Try.prog 17 #[.slice A l.length cc, .slice B l.length cb] w fun e w' => e = .returned (.bool true) ∧ Below w.heap.size w w' := by
  obtain ⟨k, hk⟩ := (eq8_ev l (by omega) hs).rounds
  exact forebayref08_Equal.calls k A cc l B cb l true w hr hc hr2 hc2 hk

set_option maxHeartbeats 4000000 in
theorem eventOwn_small (A : Option Addr) (ca : Nat) (l : List S46) (w : World) (hr : Kd.C k46 w A l.length l) (hc : l.length ≤ ca) (hf : few21B l = false) :
    Calls Try.prog 4 #[.slice A l.length ca] w fun e w' => e = .returned (.bool true) ∧ Below w.heap.size w w' := by
  have HR := Lib.hid hr
  clear hr
  go_enter Try.func4, Try.ntmps4
  go_wp2_with fail
  refine (few_calls A ca l _ HR.out hc).mono ?_
  rintro e w1 ⟨rfl, hb1⟩
  rw [hf]
  have HB1 := Lib.hid hb1
  clear hb1
  go_wp2_with fail
  refine (awake_calls _).mono ?_
  rintro e w2 ⟨rfl, hb2⟩
  have HB2 := Lib.hid (HB1.out.trans (hb2.mono HB1.out.size))
  clear hb2
  go_wp2_with fail
  go_ret
  exact ⟨rfl, HB2.out⟩

set_option maxRecDepth 100000 in
set_option maxHeartbeats 2000000 in
theorem eventOwn_in (A : Option Addr) (ca n : Nat) (l : List S46) (w : World) (hn : l.length = n) (hr : Kd.C k46 w A l.length l) (hc : l.length ≤ ca) (hf : few21B l = true) :
    Calls Try.prog 4 #[.slice A n ca] w fun e w' => e = .returned (.bool true) ∧ Below w.heap.size w w' := by
  have HR := Lib.hid hr
  have HF := Lib.hid hf
  have HM := Lib.hid (mets_few hf)
  clear hr hf
  subst hn
  go_enter Try.func4, Try.ntmps4
  go_wp2_with fail
  refine (few_calls A ca l _ HR.out hc).mono ?_
  rintro e w1 ⟨rfl, hb1⟩
  rw [HF.out]
  have HB1 := Lib.hid hb1
  clear hb1
  go_wp2_with fail
  refine (refmets_calls HF.out A ca w1 (Kd.C_below HR.out HB1.out) hc).mono ?_
  rintro e w2 ⟨A2, c2, rfl, hc2, hC2, hb2⟩
  have HB2 := Lib.hid (HB1.out.trans (hb2.mono HB1.out.size))
  have HC2 := Lib.hid hC2
  clear hb2 hC2 HB1
  go_wp2_with fail
  refine (copy_calls A2 c2 _ w2 HM.out.1 HM.out.2 HC2.out hc2).mono ?_
  rintro e w3 ⟨A3, c3, rfl, hc3, hC3, hb3⟩
  have HB3 := Lib.hid (HB2.out.trans (hb3.mono HB2.out.size))
  have HC3 := Lib.hid hC3
  clear hb3 hC3 HB2 HC2 hc2
  go_wp2_with fail
  refine (evmets_calls HF.out A ca w3 (Kd.C_below HR.out HB3.out) hc).mono ?_
  rintro e w4 ⟨A4, c4, rfl, hc4, hC4, hb4, hm4⟩
  have HB4 := Lib.hid hb4
  have HM4 := Lib.hid hm4
  clear hb4 hC4 hm4
  generalize hN : (mets l).length = N
  rw [hN] at hc3 hc4
  have HN := Lib.hid hN
  clear hN
  have HB34 := Lib.hid (show Below w3.heap.size w3 w4 from HB4.out)
  have HI0 : Hid (Below w3.heap.size w3 w4 ∧ (0 < N → ∃ g, A4 = some ⟨g, 0, none⟩ ∧ MutAt w3 w4 (300 + 0 * 100) g N)) := Lib.hid ⟨HB4.out, fun h => by
    have := HM4.out
    rw [HN.out] at this
    exact this h⟩
  have hN2 : N ≤ 2400 := by have := HM.out.1; rw [HN.out] at this; exact this
  clear HB34 HM4 HB4
  go_wp2_with fail
  go_loopw [5] (fun vi wr => ∃ i : Nat, vi = .int .i64 i ∧ i ≤ N ∧ Hid (Below w3.heap.size w3 wr ∧ (0 < N → ∃ g, A4 = some ⟨g, 0, none⟩ ∧ MutAt w3 wr (300 + i * 100) g N))) (fun vi _ => N - (intOf vi).toNat)
  case atStart => exact ⟨0, rfl, Nat.zero_le _, HI0⟩
  case round =>
    obtain ⟨i, rfl, hi, HI⟩ := hrel
    clear HI0
    by_cases hin : i < N
    · have hii : (i : Int) < (N : Int) := by omega
      obtain ⟨g, rfl, hm⟩ := HI.out.2 (by omega)
      obtain ⟨B2, n2, d2, B4, n4, d4, el⟩ := hm.el i hin
      obtain ⟨s, hs, hsz⟩ := el.name
      have hadd := fun w => run_string_add (P := Try.prog) (w := w) s ⟨#[120]⟩ (by omega) (by decide)
      have q0 := hm.thaw.free (i * 6)
      have hm1 := hm.str (b := g) (j := i * 6) (s := s ++ ⟨#[120]⟩) hm.ge ⟨s, hs, hsz⟩ (by rw [ByteArray.size_append]; show _ + 1 ≤ _; omega)
      have hv1 : (wr.setCell ⟨g, i * 6, none⟩ (.string (s ++ ⟨#[120]⟩))).cell? ⟨g, i * 6 + 2, none⟩ = some (.slice B2 n2 d2) := cell_put hs el.vals (by intro e; cases e)
      have HM1 := Lib.hid hm1
      have HV1 := Lib.hid hv1
      have hn2 := el.l2
      clear hm hm1 hv1 HI el hsz
      go_wp2_with fail
      generalize wr.setCell ⟨g, i * 6, none⟩ (.string (s ++ ⟨#[120]⟩)) = wa at HM1 HV1 ⊢
      clear hadd q0 hs
      go_loopw [6] (fun vk wr2 => ∃ k : Nat, vk = .int .i64 k ∧ k ≤ n2 ∧ Hid (MutAt w3 wr2 (300 + i * 100 + 1) g N) ∧ Hid (wr2.cell? ⟨g, i * 6 + 2, none⟩ = some (.slice B2 n2 d2))) (fun vk _ => n2 - (intOf vk).toNat)
      case atStart => exact ⟨0, rfl, Nat.zero_le _, HM1, HV1⟩
      case round =>
        obtain ⟨k, rfl, hk, HK, HV⟩ := hrel
        clear HM1 HV1
        by_cases hkn : k < n2
        · have hki : (k : Int) < (n2 : Int) := by omega
          obtain ⟨B2', n2', d2', B4', n4', d4', el⟩ := HK.out.el i hin
          have e9 := Option.some.inj (HV.out.symm.trans el.vals)
          cases e9
          obtain ⟨b, rfl, hb, ht, hp⟩ := el.val.resolve_left (by omega)
          obtain ⟨z, hz⟩ := hp k hkn
          have s0 := HV.out
          have hm2 := fun z' : Int => MutAt.num (z := z') (HK.out.drew) hb (j := k * 3 + 1) ⟨z, hz⟩
          have hv2 := fun z' : Int => cell_put (W := wr.drew) (u := .int .u64 z') hz s0 (by intro e; cases e)
          have q1 : wr.drew.frozen? ⟨b, k * 3 + 1, none⟩ = false := ht.free _
          have HM2 := Lib.hid hm2
          have HV2 := Lib.hid hv2
          clear hm2 hv2 el hp HK HV ht hb
          go_wp2_with fail
          refine region_plain (fun W => W.cell? ⟨g, i * 6 + 2, none⟩ = some (.slice (some ⟨b, 0, none⟩) n2 d2) ∧ W.cell? ⟨b, k * 3 + 1, none⟩ = some (.int .u64 z)) 18 (by kernel_rfl) ?_
          have hS : wr.drew.cell? ⟨g, i * 6 + 2, none⟩ = some (.slice (some ⟨b, 0, none⟩) n2 d2) ∧ wr.drew.cell? ⟨b, k * 3 + 1, none⟩ = some (.int .u64 z) := ⟨s0, hz⟩
          refine z_take (i := 0) (v := ?_) rfl (by kernel_rfl) (by kernel_rfl) (by kernel_rfl) (by kernel_rfl) (fun _ _ _ h => h) (Or.inl ⟨by rfl, ?_⟩) hS ?_
          rotate_left
          · (rintro wS ⟨s0, s1⟩; (try simp only [List.getElem_toArray, List.getElem_cons_zero]); go_simp <;> with_reducible rfl)
          simp only [Act.put, List.getElem_toArray, List.getElem_cons_zero, List.setIfInBounds_toArray, List.set_cons_zero, List.set_cons_succ]
          refine z_take (i := 1) (v := ?_) rfl (by kernel_rfl) (by kernel_rfl) (by kernel_rfl) (by kernel_rfl) (fun _ _ _ h => h) (Or.inl ⟨by rfl, ?_⟩) hS ?_
          rotate_left
          · (rintro wS ⟨s0, s1⟩; (try simp only [List.getElem_toArray, List.getElem_cons_zero, List.getElem_cons_succ]); go_simp <;> with_reducible rfl)
          simp only [Act.put, List.getElem_toArray, List.getElem_cons_zero, List.getElem_cons_succ, List.setIfInBounds_toArray, List.set_cons_zero, List.set_cons_succ]
          refine z_take (i := 2) (v := ?_) rfl (by kernel_rfl) (by kernel_rfl) (by kernel_rfl) (by kernel_rfl) (fun _ _ _ h => h) (Or.inl ⟨by rfl, ?_⟩) hS ?_
          rotate_left
          · (rintro wS ⟨s0, s1⟩; (try simp only [List.getElem_toArray, List.getElem_cons_zero, List.getElem_cons_succ]); go_simp <;> with_reducible rfl)
          simp only [Act.put, List.getElem_toArray, List.getElem_cons_zero, List.getElem_cons_succ, List.setIfInBounds_toArray, List.set_cons_zero, List.set_cons_succ]
          refine z_take (i := 3) (v := ?_) rfl (by kernel_rfl) (by kernel_rfl) (by kernel_rfl) (by kernel_rfl) (fun _ _ _ h => h) (Or.inl ⟨by rfl, ?_⟩) hS ?_
          rotate_left
          · (rintro wS ⟨s0, s1⟩; (try simp only [List.getElem_toArray, List.getElem_cons_zero, List.getElem_cons_succ]); go_simp <;> with_reducible rfl)
          simp only [Act.put, List.getElem_toArray, List.getElem_cons_zero, List.getElem_cons_succ, List.setIfInBounds_toArray, List.set_cons_zero, List.set_cons_succ]
          refine z_take (i := 4) (v := ?_) rfl (by kernel_rfl) (by kernel_rfl) (by kernel_rfl) (by kernel_rfl) (fun _ _ _ h => h) (Or.inl ⟨by rfl, ?_⟩) hS ?_
          rotate_left
          · (rintro wS ⟨s0, s1⟩; (try simp only [List.getElem_toArray, List.getElem_cons_zero, List.getElem_cons_succ]); go_simp <;> with_reducible rfl)
          simp only [Act.put, List.getElem_toArray, List.getElem_cons_zero, List.getElem_cons_succ, List.setIfInBounds_toArray, List.set_cons_zero, List.set_cons_succ]
          refine z_take (i := 5) (v := ?_) rfl (by kernel_rfl) (by kernel_rfl) (by kernel_rfl) (by kernel_rfl) (fun _ _ _ h => h) (Or.inl ⟨by rfl, ?_⟩) hS ?_
          rotate_left
          · (rintro wS ⟨s0, s1⟩; (try simp only [List.getElem_toArray, List.getElem_cons_zero, List.getElem_cons_succ]); go_simp <;> with_reducible rfl)
          simp only [Act.put, List.getElem_toArray, List.getElem_cons_zero, List.getElem_cons_succ, List.setIfInBounds_toArray, List.set_cons_zero, List.set_cons_succ]
          refine z_take (i := 6) (v := ?_) rfl (by kernel_rfl) (by kernel_rfl) (by kernel_rfl) (by kernel_rfl) (fun _ _ _ h => h) (Or.inl ⟨by rfl, ?_⟩) hS ?_
          rotate_left
          · (rintro wS ⟨s0, s1⟩; (try simp only [List.getElem_toArray, List.getElem_cons_zero, List.getElem_cons_succ]); go_simp <;> with_reducible rfl)
          simp only [Act.put, List.getElem_toArray, List.getElem_cons_zero, List.getElem_cons_succ, List.setIfInBounds_toArray, List.set_cons_zero, List.set_cons_succ]
          refine z_take (i := 7) (v := ?_) rfl (by kernel_rfl) (by kernel_rfl) (by kernel_rfl) (by kernel_rfl) (fun _ _ _ h => h) (Or.inl ⟨by rfl, ?_⟩) hS ?_
          rotate_left
          · (rintro wS ⟨s0, s1⟩; (try simp only [List.getElem_toArray, List.getElem_cons_zero, List.getElem_cons_succ]); go_simp <;> with_reducible rfl)
          simp only [Act.put, List.getElem_toArray, List.getElem_cons_zero, List.getElem_cons_succ, List.setIfInBounds_toArray, List.set_cons_zero, List.set_cons_succ]
          refine z_take (i := 8) (v := ?_) rfl (by kernel_rfl) (by kernel_rfl) (by kernel_rfl) (by kernel_rfl) (fun _ _ _ h => h) (Or.inl ⟨by rfl, ?_⟩) hS ?_
          rotate_left
          · (rintro wS ⟨s0, s1⟩; (try simp only [List.getElem_toArray, List.getElem_cons_zero, List.getElem_cons_succ]); go_simp <;> with_reducible rfl)
          simp only [Act.put, List.getElem_toArray, List.getElem_cons_zero, List.getElem_cons_succ, List.setIfInBounds_toArray, List.set_cons_zero, List.set_cons_succ]
          refine z_take (i := 9) (v := ?_) rfl (by kernel_rfl) (by kernel_rfl) (by kernel_rfl) (by kernel_rfl) (fun _ _ _ h => h) (Or.inl ⟨by rfl, ?_⟩) hS ?_
          rotate_left
          · (rintro wS ⟨s0, s1⟩; (try simp only [List.getElem_toArray, List.getElem_cons_zero, List.getElem_cons_succ]); go_simp <;> with_reducible rfl)
          simp only [Act.put, List.getElem_toArray, List.getElem_cons_zero, List.getElem_cons_succ, List.setIfInBounds_toArray, List.set_cons_zero, List.set_cons_succ]
          refine z_take (i := 10) (v := ?_) rfl (by kernel_rfl) (by kernel_rfl) (by kernel_rfl) (by kernel_rfl) (fun _ _ _ h => h) (Or.inl ⟨by rfl, ?_⟩) hS ?_
          rotate_left
          · (rintro wS ⟨s0, s1⟩; (try simp only [List.getElem_toArray, List.getElem_cons_zero, List.getElem_cons_succ]); go_simp <;> with_reducible rfl)
          simp only [Act.put, List.getElem_toArray, List.getElem_cons_zero, List.getElem_cons_succ, List.setIfInBounds_toArray, List.set_cons_zero, List.set_cons_succ]
          refine z_take (i := 11) (v := ?_) rfl (by kernel_rfl) (by kernel_rfl) (by kernel_rfl) (by kernel_rfl) (fun _ _ _ h => h) (Or.inl ⟨by rfl, ?_⟩) hS ?_
          rotate_left
          · (rintro wS ⟨s0, s1⟩; (try simp only [List.getElem_toArray, List.getElem_cons_zero, List.getElem_cons_succ]); go_simp <;> with_reducible rfl)
          simp only [Act.put, List.getElem_toArray, List.getElem_cons_zero, List.getElem_cons_succ, List.setIfInBounds_toArray, List.set_cons_zero, List.set_cons_succ]
          refine z_take (i := 12) (v := ?_) rfl (by kernel_rfl) (by kernel_rfl) (by kernel_rfl) (by kernel_rfl) (fun _ _ _ h => h) (Or.inl ⟨by rfl, ?_⟩) hS ?_
          rotate_left
          · (rintro wS ⟨s0, s1⟩; (try simp only [List.getElem_toArray, List.getElem_cons_zero, List.getElem_cons_succ]); go_simp <;> with_reducible rfl)
          simp only [Act.put, List.getElem_toArray, List.getElem_cons_zero, List.getElem_cons_succ, List.setIfInBounds_toArray, List.set_cons_zero, List.set_cons_succ]
          refine z_take (i := 13) (v := ?_) rfl (by kernel_rfl) (by kernel_rfl) (by kernel_rfl) (by kernel_rfl) (fun _ _ _ h => h) (Or.inl ⟨by rfl, ?_⟩) hS ?_
          rotate_left
          · (rintro wS ⟨s0, s1⟩; (try simp only [List.getElem_toArray, List.getElem_cons_zero, List.getElem_cons_succ]); go_simp <;> with_reducible rfl)
          simp only [Act.put, List.getElem_toArray, List.getElem_cons_zero, List.getElem_cons_succ, List.setIfInBounds_toArray, List.set_cons_zero, List.set_cons_succ]
          refine z_take (i := 14) (v := ?_) rfl (by kernel_rfl) (by kernel_rfl) (by kernel_rfl) (by kernel_rfl) (fun _ _ _ h => h) (Or.inl ⟨by rfl, ?_⟩) hS ?_
          rotate_left
          · (rintro wS ⟨s0, s1⟩; (try simp only [List.getElem_toArray, List.getElem_cons_zero, List.getElem_cons_succ]); go_simp <;> with_reducible rfl)
          simp only [Act.put, List.getElem_toArray, List.getElem_cons_zero, List.getElem_cons_succ, List.setIfInBounds_toArray, List.set_cons_zero, List.set_cons_succ]
          refine z_take (i := 15) (v := ?_) rfl (by kernel_rfl) (by kernel_rfl) (by kernel_rfl) (by kernel_rfl) (fun _ _ _ h => h) (Or.inl ⟨by rfl, ?_⟩) hS ?_
          rotate_left
          · (rintro wS ⟨s0, s1⟩; (try simp only [List.getElem_toArray, List.getElem_cons_zero, List.getElem_cons_succ]); go_simp <;> with_reducible rfl)
          simp only [Act.put, List.getElem_toArray, List.getElem_cons_zero, List.getElem_cons_succ, List.setIfInBounds_toArray, List.set_cons_zero, List.set_cons_succ]
          refine z_one (i := 16) (by kernel_rfl) rfl rfl ?_
          go_simp
          try refine ⟨hS, ?_⟩
          refine z_take (i := 17) (v := ?_) rfl (by kernel_rfl) (by kernel_rfl) (by kernel_rfl) (by kernel_rfl) (fun _ _ _ h => h) (Or.inl ⟨by rfl, ?_⟩) hS ?_
          rotate_left
          · (rintro wS ⟨s0, s1⟩; (try simp only [List.getElem_toArray, List.getElem_cons_zero, List.getElem_cons_succ]); go_simp <;> with_reducible rfl)
          simp only [Act.put, List.getElem_toArray, List.getElem_cons_zero, List.getElem_cons_succ, List.setIfInBounds_toArray, List.set_cons_zero, List.set_cons_succ]
          have c1 : wr.drew.cell? ⟨b, k * 3 + 1, none⟩ = some (.int .u64 z) := hz
          clear s0 hz hS
          refine z_one (i := 18) (by kernel_rfl) rfl rfl ?_
          go_simp
          refine z_done (by kernel_rfl) ?_ _
          go_wp2_with fail
          go_roundw
          case rel => exact ⟨k + 1, by go_num, by omega, Lib.hid (HM2.out _), Lib.hid (HV2.out _)⟩
          case measure => simp [intOf]; omega
        · obtain rfl : k = n2 := by omega
          obtain ⟨B2', n2', d2', B5, n5, d5, el⟩ := HK.out.el i hin
          have s0 := HV.out
          have HV4 := Lib.hid el.tags
          have HK0 : Hid (MutAt w3 wr (300 + i * 100 + 1 + 0) g N) := HK
          have hn5 := el.l4
          clear el HV HK
          go_wp2_with fail
          clear s0
          go_loopw [7] (fun vk wr2 => ∃ k : Nat, vk = .int .i64 k ∧ k ≤ n5 ∧ Hid (MutAt w3 wr2 (300 + i * 100 + 1 + k) g N) ∧ Hid (wr2.cell? ⟨g, i * 6 + 4, none⟩ = some (.slice B5 n5 d5))) (fun vk _ => n5 - (intOf vk).toNat)
          case atStart => exact ⟨0, rfl, Nat.zero_le _, HK0, HV4⟩
          case round =>
            rename_i wq _
            obtain ⟨j, rfl, hj, HK, HV⟩ := hrel
            clear HK0 HV4
            by_cases hjn : j < n5
            · have hji : (j : Int) < (n5 : Int) := by omega
              obtain ⟨B2', n2', d2', B4', n4', d4', el⟩ := HK.out.el i hin
              have e9 := Option.some.inj (HV.out.symm.trans el.tags)
              cases e9
              obtain ⟨b, rfl, hb, ht, hp⟩ := el.tag.resolve_left (by omega)
              obtain ⟨z, hz, hzs⟩ := hp j hjn
              have s0 := HV.out
              have hadd := fun w => run_string_add (P := Try.prog) (w := w) z ⟨#[120]⟩ (by omega) (by decide)
              have hm2 := MutAt.str (s := z ++ ⟨#[120]⟩) (HK.out.drew) hb (j := j * 2) ⟨z, hz, hzs⟩ (by rw [ByteArray.size_append]; show _ + 1 ≤ _; omega)
              have hv2 := cell_put (W := wr.drew) (u := .string (z ++ ⟨#[120]⟩)) hz s0 (by intro e; cases e)
              have q1 : wr.drew.frozen? ⟨b, j * 2, none⟩ = false := ht.free _
              have HM2 := Lib.hid hm2
              have HV2 := Lib.hid hv2
              clear hm2 hv2 el hp HK HV ht hb
              go_wp2_with fail
              refine region_plain (fun W => W.cell? ⟨g, i * 6 + 4, none⟩ = some (.slice (some ⟨b, 0, none⟩) n5 d5) ∧ W.cell? ⟨b, j * 2, none⟩ = some (.string z)) 18 (by kernel_rfl) ?_
              have hS : wr.drew.cell? ⟨g, i * 6 + 4, none⟩ = some (.slice (some ⟨b, 0, none⟩) n5 d5) ∧ wr.drew.cell? ⟨b, j * 2, none⟩ = some (.string z) := ⟨s0, hz⟩
              refine z_take (i := 0) (v := ?_) rfl (by kernel_rfl) (by kernel_rfl) (by kernel_rfl) (by kernel_rfl) (fun _ _ _ h => h) (Or.inl ⟨by rfl, ?_⟩) hS ?_
              rotate_left
              · (rintro wS ⟨s0, s1⟩; (try simp only [List.getElem_toArray, List.getElem_cons_zero]); go_simp <;> with_reducible rfl)
              simp only [Act.put, List.getElem_toArray, List.getElem_cons_zero, List.setIfInBounds_toArray, List.set_cons_zero, List.set_cons_succ]
              refine z_take (i := 1) (v := ?_) rfl (by kernel_rfl) (by kernel_rfl) (by kernel_rfl) (by kernel_rfl) (fun _ _ _ h => h) (Or.inl ⟨by rfl, ?_⟩) hS ?_
              rotate_left
              · (rintro wS ⟨s0, s1⟩; (try simp only [List.getElem_toArray, List.getElem_cons_zero, List.getElem_cons_succ]); go_simp <;> with_reducible rfl)
              simp only [Act.put, List.getElem_toArray, List.getElem_cons_zero, List.getElem_cons_succ, List.setIfInBounds_toArray, List.set_cons_zero, List.set_cons_succ]
              refine z_take (i := 2) (v := ?_) rfl (by kernel_rfl) (by kernel_rfl) (by kernel_rfl) (by kernel_rfl) (fun _ _ _ h => h) (Or.inl ⟨by rfl, ?_⟩) hS ?_
              rotate_left
              · (rintro wS ⟨s0, s1⟩; (try simp only [List.getElem_toArray, List.getElem_cons_zero, List.getElem_cons_succ]); go_simp <;> with_reducible rfl)
              simp only [Act.put, List.getElem_toArray, List.getElem_cons_zero, List.getElem_cons_succ, List.setIfInBounds_toArray, List.set_cons_zero, List.set_cons_succ]
              refine z_take (i := 3) (v := ?_) rfl (by kernel_rfl) (by kernel_rfl) (by kernel_rfl) (by kernel_rfl) (fun _ _ _ h => h) (Or.inl ⟨by rfl, ?_⟩) hS ?_
              rotate_left
              · (rintro wS ⟨s0, s1⟩; (try simp only [List.getElem_toArray, List.getElem_cons_zero, List.getElem_cons_succ]); go_simp <;> with_reducible rfl)
              simp only [Act.put, List.getElem_toArray, List.getElem_cons_zero, List.getElem_cons_succ, List.setIfInBounds_toArray, List.set_cons_zero, List.set_cons_succ]
              refine z_take (i := 4) (v := ?_) rfl (by kernel_rfl) (by kernel_rfl) (by kernel_rfl) (by kernel_rfl) (fun _ _ _ h => h) (Or.inl ⟨by rfl, ?_⟩) hS ?_
              rotate_left
              · (rintro wS ⟨s0, s1⟩; (try simp only [List.getElem_toArray, List.getElem_cons_zero, List.getElem_cons_succ]); go_simp <;> with_reducible rfl)
              simp only [Act.put, List.getElem_toArray, List.getElem_cons_zero, List.getElem_cons_succ, List.setIfInBounds_toArray, List.set_cons_zero, List.set_cons_succ]
              refine z_take (i := 5) (v := ?_) rfl (by kernel_rfl) (by kernel_rfl) (by kernel_rfl) (by kernel_rfl) (fun _ _ _ h => h) (Or.inl ⟨by rfl, ?_⟩) hS ?_
              rotate_left
              · (rintro wS ⟨s0, s1⟩; (try simp only [List.getElem_toArray, List.getElem_cons_zero, List.getElem_cons_succ]); go_simp <;> with_reducible rfl)
              simp only [Act.put, List.getElem_toArray, List.getElem_cons_zero, List.getElem_cons_succ, List.setIfInBounds_toArray, List.set_cons_zero, List.set_cons_succ]
              refine z_take (i := 6) (v := ?_) rfl (by kernel_rfl) (by kernel_rfl) (by kernel_rfl) (by kernel_rfl) (fun _ _ _ h => h) (Or.inl ⟨by rfl, ?_⟩) hS ?_
              rotate_left
              · (rintro wS ⟨s0, s1⟩; (try simp only [List.getElem_toArray, List.getElem_cons_zero, List.getElem_cons_succ]); go_simp <;> with_reducible rfl)
              simp only [Act.put, List.getElem_toArray, List.getElem_cons_zero, List.getElem_cons_succ, List.setIfInBounds_toArray, List.set_cons_zero, List.set_cons_succ]
              refine z_take (i := 7) (v := ?_) rfl (by kernel_rfl) (by kernel_rfl) (by kernel_rfl) (by kernel_rfl) (fun _ _ _ h => h) (Or.inl ⟨by rfl, ?_⟩) hS ?_
              rotate_left
              · (rintro wS ⟨s0, s1⟩; (try simp only [List.getElem_toArray, List.getElem_cons_zero, List.getElem_cons_succ]); go_simp <;> with_reducible rfl)
              simp only [Act.put, List.getElem_toArray, List.getElem_cons_zero, List.getElem_cons_succ, List.setIfInBounds_toArray, List.set_cons_zero, List.set_cons_succ]
              refine z_take (i := 8) (v := ?_) rfl (by kernel_rfl) (by kernel_rfl) (by kernel_rfl) (by kernel_rfl) (fun _ _ _ h => h) (Or.inl ⟨by rfl, ?_⟩) hS ?_
              rotate_left
              · (rintro wS ⟨s0, s1⟩; (try simp only [List.getElem_toArray, List.getElem_cons_zero, List.getElem_cons_succ]); go_simp <;> with_reducible rfl)
              simp only [Act.put, List.getElem_toArray, List.getElem_cons_zero, List.getElem_cons_succ, List.setIfInBounds_toArray, List.set_cons_zero, List.set_cons_succ]
              refine z_take (i := 9) (v := ?_) rfl (by kernel_rfl) (by kernel_rfl) (by kernel_rfl) (by kernel_rfl) (fun _ _ _ h => h) (Or.inl ⟨by rfl, ?_⟩) hS ?_
              rotate_left
              · (rintro wS ⟨s0, s1⟩; (try simp only [List.getElem_toArray, List.getElem_cons_zero, List.getElem_cons_succ]); go_simp <;> with_reducible rfl)
              simp only [Act.put, List.getElem_toArray, List.getElem_cons_zero, List.getElem_cons_succ, List.setIfInBounds_toArray, List.set_cons_zero, List.set_cons_succ]
              refine z_take (i := 10) (v := ?_) rfl (by kernel_rfl) (by kernel_rfl) (by kernel_rfl) (by kernel_rfl) (fun _ _ _ h => h) (Or.inl ⟨by rfl, ?_⟩) hS ?_
              rotate_left
              · (rintro wS ⟨s0, s1⟩; (try simp only [List.getElem_toArray, List.getElem_cons_zero, List.getElem_cons_succ]); go_simp <;> with_reducible rfl)
              simp only [Act.put, List.getElem_toArray, List.getElem_cons_zero, List.getElem_cons_succ, List.setIfInBounds_toArray, List.set_cons_zero, List.set_cons_succ]
              refine z_take (i := 11) (v := ?_) rfl (by kernel_rfl) (by kernel_rfl) (by kernel_rfl) (by kernel_rfl) (fun _ _ _ h => h) (Or.inl ⟨by rfl, ?_⟩) hS ?_
              rotate_left
              · (rintro wS ⟨s0, s1⟩; (try simp only [List.getElem_toArray, List.getElem_cons_zero, List.getElem_cons_succ]); go_simp <;> with_reducible rfl)
              simp only [Act.put, List.getElem_toArray, List.getElem_cons_zero, List.getElem_cons_succ, List.setIfInBounds_toArray, List.set_cons_zero, List.set_cons_succ]
              refine z_take (i := 12) (v := ?_) rfl (by kernel_rfl) (by kernel_rfl) (by kernel_rfl) (by kernel_rfl) (fun _ _ _ h => h) (Or.inl ⟨by rfl, ?_⟩) hS ?_
              rotate_left
              · (rintro wS ⟨s0, s1⟩; (try simp only [List.getElem_toArray, List.getElem_cons_zero, List.getElem_cons_succ]); go_simp <;> with_reducible rfl)
              simp only [Act.put, List.getElem_toArray, List.getElem_cons_zero, List.getElem_cons_succ, List.setIfInBounds_toArray, List.set_cons_zero, List.set_cons_succ]
              refine z_take (i := 13) (v := ?_) rfl (by kernel_rfl) (by kernel_rfl) (by kernel_rfl) (by kernel_rfl) (fun _ _ _ h => h) (Or.inl ⟨by rfl, ?_⟩) hS ?_
              rotate_left
              · (rintro wS ⟨s0, s1⟩; (try simp only [List.getElem_toArray, List.getElem_cons_zero, List.getElem_cons_succ]); go_simp <;> with_reducible rfl)
              simp only [Act.put, List.getElem_toArray, List.getElem_cons_zero, List.getElem_cons_succ, List.setIfInBounds_toArray, List.set_cons_zero, List.set_cons_succ]
              refine z_take (i := 14) (v := ?_) rfl (by kernel_rfl) (by kernel_rfl) (by kernel_rfl) (by kernel_rfl) (fun _ _ _ h => h) (Or.inl ⟨by rfl, ?_⟩) hS ?_
              rotate_left
              · (rintro wS ⟨s0, s1⟩; (try simp only [List.getElem_toArray, List.getElem_cons_zero, List.getElem_cons_succ]); go_simp <;> with_reducible rfl)
              simp only [Act.put, List.getElem_toArray, List.getElem_cons_zero, List.getElem_cons_succ, List.setIfInBounds_toArray, List.set_cons_zero, List.set_cons_succ]
              refine z_take (i := 15) (v := ?_) rfl (by kernel_rfl) (by kernel_rfl) (by kernel_rfl) (by kernel_rfl) (fun _ _ _ h => h) (Or.inl ⟨by rfl, ?_⟩) hS ?_
              rotate_left
              · (rintro wS ⟨s0, s1⟩; (try simp only [List.getElem_toArray, List.getElem_cons_zero, List.getElem_cons_succ]); go_simp <;> with_reducible rfl)
              simp only [Act.put, List.getElem_toArray, List.getElem_cons_zero, List.getElem_cons_succ, List.setIfInBounds_toArray, List.set_cons_zero, List.set_cons_succ]
              refine z_one (i := 16) (by kernel_rfl) rfl rfl ?_
              go_simp
              try refine ⟨hS, ?_⟩
              refine z_take (i := 17) (v := ?_) rfl (by kernel_rfl) (by kernel_rfl) (by kernel_rfl) (by kernel_rfl) (fun _ _ _ h => h) (Or.inl ⟨by rfl, ?_⟩) hS ?_
              rotate_left
              · (rintro wS ⟨s0, s1⟩; (try simp only [List.getElem_toArray, List.getElem_cons_zero, List.getElem_cons_succ]); go_simp <;> with_reducible rfl)
              simp only [Act.put, List.getElem_toArray, List.getElem_cons_zero, List.getElem_cons_succ, List.setIfInBounds_toArray, List.set_cons_zero, List.set_cons_succ]
              have c1 : wr.drew.cell? ⟨b, j * 2, none⟩ = some (.string z) := hz
              clear s0 hz hS
              refine z_one (i := 18) (by kernel_rfl) rfl rfl ?_
              go_simp
              refine z_done (by kernel_rfl) ?_ _
              go_wp2_with fail
              go_roundw
              case rel => exact ⟨j + 1, by go_num, by omega, HM2, HV2⟩
              case measure => simp [intOf]; omega
            · obtain rfl : j = n5 := by omega
              have HE : Hid (Below w3.heap.size w3 wr ∧ (0 < N → ∃ g', (some ⟨g, 0, none⟩ : Option Addr) = some ⟨g', 0, none⟩ ∧ MutAt w3 wr (300 + (i + 1) * 100) g' N)) := Lib.hid ⟨HK.out.below, fun _ => ⟨g, rfl, HK.out.mono (by omega)⟩⟩
              have s0 := HV.out
              clear HK HV
              go_wp2_with fail
              go_roundw
              case rel => exact ⟨i + 1, by go_num, by omega, HE⟩
              case measure => simp [intOf]; omega
    · obtain rfl : i = N := by omega
      have HBr := Lib.hid HI.out.1
      have HB5 := Lib.hid (HB3.out.trans (HI.out.1.mono HB3.out.size))
      clear HI
      go_wp2_with fail
      refine (evmets_calls HF.out A ca wr (Kd.C_below HR.out HB5.out) hc).mono ?_
      rintro e w5 ⟨A5, c5, rfl, hc5, hC5, hb5, _⟩
      have HB6 := Lib.hid (HB5.out.trans (hb5.mono HB5.out.size))
      have hw3 := Kd.C_below (Kd.C_below HC3.out HBr.out) hb5
      have HC6 := Lib.hid hw3
      have heq := equal_calls A5 c5 A3 c3 (mets l) w5 HM.out.1 HM.out.2 hC5 hc5 hw3 (by rw [HN.out]; exact hc3)
      rw [HN.out] at heq
      have HEQ := Lib.hid heq
      clear hb5 hC5 hc5 hw3 heq HB5
      rw [HN.out]
      go_wp2_with fail
      refine HEQ.out.mono ?_
      rintro e w6 ⟨rfl, b6⟩
      have HB7 := Lib.hid (HB6.out.trans (b6.mono HB6.out.size))
      have HC7 := Lib.hid (Kd.C_below HC6.out b6)
      clear b6 HEQ HB6 HC6
      go_wp2_with fail
      refine (refmets_calls HF.out A ca w6 (Kd.C_below HR.out HB7.out) hc).mono ?_
      rintro e w7 ⟨A7, c7, rfl, hc7, hC7, hb7⟩
      have HB8 := Lib.hid (HB7.out.trans (hb7.mono HB7.out.size))
      have heq := equal_calls A7 c7 A3 c3 (mets l) w7 HM.out.1 HM.out.2 hC7 hc7 (Kd.C_below HC7.out hb7) (by rw [HN.out]; exact hc3)
      rw [HN.out] at heq
      have HEQ := Lib.hid heq
      clear hb7 hC7 hc7 heq HB7 HC7
      rw [HN.out]
      go_wp2_with fail
      refine HEQ.out.mono ?_
      rintro e w8 ⟨rfl, b8⟩
      have HB9 := Lib.hid (HB8.out.trans (b8.mono HB8.out.size))
      clear b8 HEQ HB8
      go_wp2_with fail
      refine (awake_calls _).mono ?_
      rintro e w9 ⟨rfl, b9⟩
      go_wp2_with fail
      go_ret
      exact ⟨rfl, HB9.out.trans (b9.mono HB9.out.size)⟩

theorem eventOwn_walk (A : Option Addr) (ca : Nat) (l : List S46) (w : World) (hr : Kd.C k46 w A l.length l) (hc : l.length ≤ ca) :
    Calls Try.prog 4 #[.slice A l.length ca] w fun e w' => e = .returned (.bool true) ∧ Below w.heap.size w w' := by
  cases hf : few21B l with
  | false => exact eventOwn_small A ca l w hr hc hf
  | true => exact eventOwn_in A ca _ l w rfl hr hc hf
end Go.Proofs.Ytigchloekolaoaa.PEventOwn

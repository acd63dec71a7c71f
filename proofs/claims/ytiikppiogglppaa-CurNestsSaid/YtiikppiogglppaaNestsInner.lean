/-
  The inner read of the law CurNests.
-/
import Derived.Test.YtiikppiogglppaaNestsBox
namespace Go.Proofs.Ytiikppiogglppaa
open Go.RowKit

/-- Between two rounds of the inner read. -/
structure InnerAt (w0 w1 w2 : World) (p : NP) (base g : Nat) (A : Option Addr) (c : Nat) (l : List Int) (s : CS) (CB : Nat) (kp : Option Addr) (inn f1 f2 : Int) (re be : Bool) (base2 g' : Nat) (A' : Option Addr) (c' : Nat) (l1 : List Int) (s' : CS) (wr : World) : Prop where
  deep : Deep w0 w1 p base g A c l s CB kp inn f1 f2 re be wr
  cur : IsCur wr g' A' c' l1 s' true
  same : ∀ j, base2 ≤ j → j < w2.heap.size → j ≠ g' → wr.heap[j]? = w2.heap[j]?
  size : w2.heap.size ≤ wr.heap.size
  ord : CB < base2 ∧ base2 ≤ g'
  ab : 0 < l1.length → ∀ ad, A' = some ad → base2 ≤ ad.block

section
variable {w0 w1 w2 wr w' : World} {p : NP} {base g : Nat} {A : Option Addr} {c : Nat} {l : List Int} {s : CS} {CB : Nat} {kp : Option Addr} {inn f1 f2 : Int} {re be : Bool} {base2 g' : Nat} {A' : Option Addr} {c' : Nat} {l1 : List Int} {s' : CS}
theorem InnerAt.step (h : InnerAt w0 w1 w2 p base g A c l s CB kp inn f1 f2 re be base2 g' A' c' l1 s' wr) {s'' : CS} (hc : IsCur w' g' A' c' l1 s'' true) (hg : wr.grownBy w' (some g')) : InnerAt w0 w1 w2 p base g A c l s CB kp inn f1 f2 re be base2 g' A' c' l1 s'' w' := by
  have ho := h.ord
  exact { h with
    deep := h.deep.far hg (by omega), cur := hc
    same := fun k h1 h2 h3 => (hg.block k (Nat.lt_of_lt_of_le h2 h.size) (fun e => h3 (Option.some.inj e))).trans (h.same k h1 h2 h3)
    size := Nat.le_trans h.size hg.size }
theorem InnerAt.later (h : InnerAt w0 w1 w2 p base g A c l s CB kp inn f1 f2 re be base2 g' A' c' l1 s' wr) (hb : Below wr.heap.size wr w') : InnerAt w0 w1 w2 p base g A c l s CB kp inn f1 f2 re be base2 g' A' c' l1 s' w' :=
  h.step (h.cur.below hb) (grown_below hb)
theorem InnerAt.put_re (h : InnerAt w0 w1 w2 p base g A c l s CB kp inn f1 f2 re be base2 g' A' c' l1 s' wr) (x : Bool) : InnerAt w0 w1 w2 p base g A c l s CB kp inn f1 f2 x be base2 g' A' c' l1 s' (wr.setCell ⟨p.RE, 0, none⟩ (.bool x)) := by
  have ho := h.ord
  have hd := h.deep.ord
  have hn := h.deep.nest.ord
  exact { h with
    deep := h.deep.put_re x
    cur := h.cur.kept' (grown_set wr p.RE 0 _) (fun e => by have := Option.some.inj e; omega) (fun h0 ad e e2 => by have := Option.some.inj e2; have := h.ab h0 ad e; omega)
    same := fun k h1 h2 h3 => (heap_setCell_other _ _ _ _ (by show k ≠ p.RE; omega)).trans (h.same k h1 h2 h3)
    size := by simpa [World.setCell] using h.size }
theorem InnerAt.read (h : InnerAt w0 w1 w2 p base g A c l s CB kp inn f1 f2 re be base2 g' A' c' l1 s' wr) (Φ : CS → World → Prop) (hΦ : Φ s' wr) (e : Ending) (he : e = .returned (.tuple #[]) ∨ ∃ older, Plain older ∧ e = .panicked ({ v := stopOf g', recovered := false } :: older)) : Read base2 w2 g' A' c' l1 Φ e wr :=
  ⟨s', he, h.cur, hΦ, h.size, h.same⟩
end

/-- What a read does that another Cur's Must stops. -/
def Passed (base : Nat) (w1 : World) (g g0 : Nat) (A : Option Addr) (c : Nat) (l : List Int) (Φ : CS → World → Prop) (e : Ending) (w' : World) : Prop :=
  ∃ s older, Plain older ∧ e = .panicked ({ v := stopOf g0, recovered := false } :: older) ∧ IsCur w' g A c l s true ∧ Φ s w' ∧ w1.heap.size ≤ w'.heap.size ∧ (∀ k, base ≤ k → k < w1.heap.size → k ≠ g → w'.heap[k]? = w1.heap[k]?)

def innerDone (w : Int) (l1 : List Int) (k1 : Nat) : Bool := !(w == 0 && (CS.bytes l1 k1).code != 0)

/-- What the inner read leaves of the outer one's things. -/
def AfterInner (w0 w1 : World) (p : NP) (base g : Nat) (A : Option Addr) (c : Nat) (l : List Int) (s0 : CS) (CB : Nat) (kp : Option Addr) (inn f1 f2 : Int) (re be : Bool) (l1 : List Int) (k1 : Nat) (s : CS) (w' : World) : Prop :=
  s = CS.bytes l1 k1 ∧ Deep w0 w1 p base g A c l s0 CB kp inn f1 f2 re be w'

set_option maxHeartbeats 4000000 in
/-- The inner read, where no Must of the outer Cur stops it. -/
theorem inner_read (w0 w1 w2 : World) (p : NP) (base g : Nat) (A : Option Addr) (c : Nat) (l : List Int) (s0 : CS) (CB : Nat) (kp : Option Addr) (inn f1 f2 : Int) (be : Bool) (base2 g' : Nat) (A' : Option Addr) (c' : Nat) (l1 : List Int) (k1 : Nat)
    (hk1 : p.t1 = (k1 : Int)) (hk2 : k1 ≤ 120) (hl1 : l1.length ≤ 1000) (hs0 : s0.fits l) (hP : ¬ (p.w = 1 ∧ s0.code ≠ 0))
    (h : InnerAt w0 w1 w2 p base g A c l s0 CB kp inn f1 f2 false be base2 g' A' c' l1 CS.start w2) :
    Calls Try.prog 15 #[.pointer (some ⟨g', 0, none⟩), .pointer (some ⟨p.TK, 0, none⟩), .pointer (some ⟨p.WH, 0, none⟩), .pointer (some ⟨CB, 0, none⟩), .pointer (some ⟨p.OT, 0, none⟩), .pointer (some ⟨p.RE, 0, none⟩)] w2
      (Read base2 w2 g' A' c' l1 (AfterInner w0 w1 p base g A c l s0 CB kp inn f1 f2 (innerDone p.w l1 k1) be l1 k1)) := by
  have H := Lib.hid h
  have HK := Lib.hid hk1
  have HSF := Lib.hid hs0
  clear h hk1 hs0
  rw [← bytes_start l1] at H
  go_enter Try.func15, Try.ntmps15
  go_wp2_with fail
  go_loopw [7] (fun vi wr => ∃ k : Nat, k ≤ k1 ∧ vi = .int .i64 k ∧ Hid (InnerAt w0 w1 w2 p base g A c l s0 CB kp inn f1 f2 false be base2 g' A' c' l1 (CS.bytes l1 k) wr)) (fun vi _ => k1 - (intOf vi).toNat)
  case atStart => exact ⟨0, by omega, rfl, H⟩
  case round =>
    obtain ⟨k, hk, rfl, HI⟩ := hrel
    clear H
    obtain ⟨_, _, _, q3, q4, q5, _, _, _, _, q10, _⟩ := HI.out.deep.nest.cells
    rw [HK.out] at q3
    have f10 := HI.out.deep.nest.free.2.2.2.2.1
    by_cases hkn : k < k1
    · have hki : (k : Int) < (k1 : Int) := by omega
      have hT := byte_any wr g' A' c' l1 (CS.bytes l1 k) true HI.out.cur (bytes_fits hl1 k)
      rw [bytes_next] at hT
      have HT := Lib.hid hT
      clear hT
      go_wp2_with fail
      refine HT.out.mono ?_
      rintro e w3 ⟨rfl, h3, hg3⟩
      have H3 := Lib.hid (HI.out.step h3 hg3)
      clear h3 hg3
      go_wp2_with fail
      go_roundw
      case rel => exact ⟨k + 1, by omega, by go_num, H3⟩
      case measure => simp [intOf]; omega
    · obtain rfl : k = k1 := by omega
      by_cases hw0 : p.w = 0
      · rw [hw0] at q4
        by_cases hc : (CS.bytes l1 k).code = 0
        · have hid : innerDone p.w l1 k = true := by unfold innerDone; rw [hc]; simp
          have HID := Lib.hid hid
          clear hid hw0
          go_wp2_with fail
          refine (must_idle wr g' A' c' l1 (CS.bytes l1 k) true HI.out.cur (bytes_fits hl1 k) (.inr hc)).mono ?_
          rintro e w3 ⟨rfl, hb3⟩
          have H3 := Lib.hid (HI.out.later hb3)
          have H4 := Lib.hid (H3.out.put_re true)
          obtain ⟨_, _, _, _, _, _, _, _, _, _, x10, _⟩ := H3.out.deep.nest.cells
          have g10 := H3.out.deep.nest.free.2.2.2.2.1
          clear hb3
          go_wp2_with fail
          (first | go_end0 | ((try simp only [Exit.inBlock, Exit.then]); refine bodyPost_ret (results_none rfl _ _ _) rfl ?_))
          exact H4.out.read _ ⟨rfl, by rw [HID.out]; exact H4.out.deep⟩ _ (.inl rfl)
        · have hid : innerDone p.w l1 k = false := by unfold innerDone; rw [hw0, bne_iff_ne.2 hc]; rfl
          have HID := Lib.hid hid
          clear hid hw0
          go_wp2_with fail
          refine (must_stop wr g' A' c' l1 (CS.bytes l1 k) HI.out.cur (bytes_fits hl1 k) hc).mono ?_
          rintro e w3 ⟨rfl, hb3⟩
          have H3 := Lib.hid (HI.out.later hb3)
          clear hb3
          go_wp2_with fail
          exact ⟨rfl, H3.out.read _ ⟨rfl, by rw [HID.out]; exact H3.out.deep⟩ _ (.inr ⟨[], rfl, rfl⟩)⟩
      · have hid : innerDone p.w l1 k = true := by unfold innerDone; rw [beq_eq_false_iff_ne.2 hw0]; rfl
        have HID := Lib.hid hid
        have hwb : (p.w == 0) = false := beq_eq_false_iff_ne.2 hw0
        by_cases hw1 : p.w = 1
        · have hc0 : s0.code = 0 := by
            by_cases hc : s0.code = 0
            · exact hc
            · exact absurd ⟨hw1, hc⟩ hP
          rw [hw1] at q4
          have cbc := HI.out.deep.cbcell
          clear hid hw0 hwb hP hw1
          go_wp2_with fail
          refine (must_idle wr g A c l s0 true HI.out.deep.cur HSF.out (.inr hc0)).mono ?_
          rintro e w3 ⟨rfl, hb3⟩
          have H3 := Lib.hid (HI.out.later hb3)
          have H4 := Lib.hid (H3.out.put_re true)
          obtain ⟨_, _, _, _, _, _, _, _, _, _, x10, _⟩ := H3.out.deep.nest.cells
          have g10 := H3.out.deep.nest.free.2.2.2.2.1
          clear hb3
          go_wp2_with fail
          (first | go_end0 | ((try simp only [Exit.inBlock, Exit.then]); refine bodyPost_ret (results_none rfl _ _ _) rfl ?_))
          exact H4.out.read _ ⟨rfl, by rw [HID.out]; exact H4.out.deep⟩ _ (.inl rfl)
        · have hwb1 : (p.w == 1) = false := beq_eq_false_iff_ne.2 hw1
          clear hid hw0 hP hw1
          go_wp2_with fail
          refine (must_idle wr p.go p.Ao p.co [] ⟨0, 13, 0⟩ false HI.out.deep.nest.other ⟨by decide, by decide, fun h => by cases h⟩ (.inl rfl)).mono ?_
          rintro e w3 ⟨rfl, hb3⟩
          have H3 := Lib.hid (HI.out.later hb3)
          have H4 := Lib.hid (H3.out.put_re true)
          obtain ⟨_, _, _, _, _, _, _, _, _, _, x10, _⟩ := H3.out.deep.nest.cells
          have g10 := H3.out.deep.nest.free.2.2.2.2.1
          clear hb3
          go_wp2_with fail
          (first | go_end0 | ((try simp only [Exit.inBlock, Exit.then]); refine bodyPost_ret (results_none rfl _ _ _) rfl ?_))
          exact H4.out.read _ ⟨rfl, by rw [HID.out]; exact H4.out.deep⟩ _ (.inl rfl)

set_option maxHeartbeats 4000000 in
/-- The inner read, where a Must of the outer Cur stops it. -/
theorem inner_passed (w0 w1 w2 : World) (p : NP) (base g : Nat) (A : Option Addr) (c : Nat) (l : List Int) (s0 : CS) (CB : Nat) (kp : Option Addr) (inn f1 f2 : Int) (be : Bool) (base2 g' : Nat) (A' : Option Addr) (c' : Nat) (l1 : List Int) (k1 : Nat)
    (hk1 : p.t1 = (k1 : Int)) (hk2 : k1 ≤ 120) (hl1 : l1.length ≤ 1000) (hs0 : s0.fits l) (hw1 : p.w = 1) (hc0 : s0.code ≠ 0)
    (h : InnerAt w0 w1 w2 p base g A c l s0 CB kp inn f1 f2 false be base2 g' A' c' l1 CS.start w2) :
    Calls Try.prog 15 #[.pointer (some ⟨g', 0, none⟩), .pointer (some ⟨p.TK, 0, none⟩), .pointer (some ⟨p.WH, 0, none⟩), .pointer (some ⟨CB, 0, none⟩), .pointer (some ⟨p.OT, 0, none⟩), .pointer (some ⟨p.RE, 0, none⟩)] w2
      (Passed base2 w2 g' g A' c' l1 (fun _ => Deep w0 w1 p base g A c l s0 CB kp inn f1 f2 false be)) := by
  have H := Lib.hid h
  have HK := Lib.hid hk1
  have HSF := Lib.hid hs0
  have HW := Lib.hid hw1
  clear h hk1 hs0 hw1
  rw [← bytes_start l1] at H
  go_enter Try.func15, Try.ntmps15
  go_wp2_with fail
  go_loopw [7] (fun vi wr => ∃ k : Nat, k ≤ k1 ∧ vi = .int .i64 k ∧ Hid (InnerAt w0 w1 w2 p base g A c l s0 CB kp inn f1 f2 false be base2 g' A' c' l1 (CS.bytes l1 k) wr)) (fun vi _ => k1 - (intOf vi).toNat)
  case atStart => exact ⟨0, by omega, rfl, H⟩
  case round =>
    obtain ⟨k, hk, rfl, HI⟩ := hrel
    clear H
    obtain ⟨_, _, _, q3, q4, q5, _, _, _, _, q10, _⟩ := HI.out.deep.nest.cells
    rw [HK.out] at q3
    rw [HW.out] at q4
    by_cases hkn : k < k1
    · have hki : (k : Int) < (k1 : Int) := by omega
      have hT := byte_any wr g' A' c' l1 (CS.bytes l1 k) true HI.out.cur (bytes_fits hl1 k)
      rw [bytes_next] at hT
      have HT := Lib.hid hT
      clear hT
      go_wp2_with fail
      refine HT.out.mono ?_
      rintro e w3 ⟨rfl, h3, hg3⟩
      have H3 := Lib.hid (HI.out.step h3 hg3)
      clear h3 hg3
      go_wp2_with fail
      go_roundw
      case rel => exact ⟨k + 1, by omega, by go_num, H3⟩
      case measure => simp [intOf]; omega
    · obtain rfl : k = k1 := by omega
      have cbc := HI.out.deep.cbcell
      go_wp2_with fail
      refine (must_stop wr g A c l s0 HI.out.deep.cur HSF.out hc0).mono ?_
      rintro e w3 ⟨rfl, hb3⟩
      have H3 := Lib.hid (HI.out.later hb3)
      clear hb3
      go_wp2_with fail
      exact ⟨rfl, _, [], rfl, rfl, H3.out.cur, H3.out.deep, H3.out.size, H3.out.same⟩
end Go.Proofs.Ytiikppiogglppaa

/-
  The chapter's example: a Try whose read is stopped.
-/
import Derived.Test.YtiikppiogglppaaTry
import Derived.Test.YtiikppiogglppaaSame
namespace Go.Proofs.Ytiikppiogglppaa
open Go.RowKit

set_option maxHeartbeats 1000000 in
/-- The read of the example: a byte, a fault, and a Must that stops it. -/
theorem read_any (w : World) (g : Nat) (A : Option Addr) (c : Nat) (h : IsCur w g A c [1, 2] CS.start true) :
    Calls Try.prog 27 #[.pointer (some ⟨g, 0, none⟩)] w fun e w' => e = .panicked [{ v := stopOf g, recovered := false }] ∧ IsCur w' g A c [1, 2] ⟨1, 11, 0⟩ true ∧ w.grownBy w' (some g) := by
  have hf : CS.start.fits [1, 2] := CS.fits_start (by decide)
  have H := Lib.hid h
  clear h
  go_enter Try.func27, Try.ntmps27
  go_wp2_with fail
  refine (byte_any w g A c [1, 2] CS.start true H.out hf).mono ?_
  rintro e w1 ⟨rfl, h1, hg1⟩
  have H1 := Lib.hid (show IsCur w1 g A c [1, 2] ⟨1, 0, 0⟩ true from h1)
  have G1 := Lib.hid hg1
  clear h1 hg1 H
  go_wp2_with fail
  refine (fail_any w1 g A c [1, 2] ⟨1, 0, 0⟩ true 11 0 H1.out ⟨by decide, by decide, fun _ => rfl⟩).mono ?_
  rintro e w2 ⟨rfl, h2, hg2⟩
  have H2 := Lib.hid (show IsCur w2 g A c [1, 2] ⟨1, 11, 0⟩ true from h2)
  have G2 := Lib.hid (G1.out.trans hg2)
  clear h2 hg2 H1 G1
  go_wp2_with fail
  refine (must_stop w2 g A c [1, 2] ⟨1, 11, 0⟩ H2.out ⟨by decide, by decide, fun h => by cases h⟩ (by decide)).mono ?_
  rintro e w3 ⟨rfl, hb⟩
  have H3 := Lib.hid (H2.out.below hb)
  have G3 := Lib.hid (G2.out.trans (grown_below (row := some g) hb))
  clear hb
  go_wp2
  exact ⟨rfl, rfl, H3.out, G3.out⟩

set_option maxHeartbeats 2000000 in
theorem try_read (B : Option Addr) (cb : Nat) (w : World) (hs : Sl w B 2 [1, 2]) (hB : B = none → cb = 0) :
    Calls Try.prog 13 #[.slice B 2 cb, .func (.func 27) #[] #[]] w fun e w' => e = .returned (.tuple #[.int .i64 1, .agg #[.int .i64 11, .int .i64 0]]) ∧ Below w.heap.size w w' := by
  have hmf : ∀ (fn : Fn) (first cap : Array Value) (w : World), (Instr.makeFunc fn first cap).run Try.prog w = .ok (.func fn first cap) w := fun _ _ _ _ => rfl
  have hnf : ∀ w : World, (binOp .eql 34 (.func (.func 27) #[] #[]) .nilFunc).run Try.prog w = .ok (.bool false) w := fun _ => by kernel_rfl
  have hb0 := ((Below.refl w.heap.size w).alloc (Nat.le_refl _) (.cells #[.int .i64 0] 3)).alloc (by simp) (.cells #[.int .i64 0, .int .i64 0] 31)
  have HS := Lib.hid (hs.below hb0)
  have HB0 := Lib.hid hb0
  clear hs hb0
  go_enter_defers Try.func13, Try.ntmps13
  go_wp2_with fail
  refine (new_any B 2 cb [1, 2] _ HS.out hB (by decide)).mono ?_
  rintro e w1 ⟨g, A, c, rfl, h1, hge, hA, hb1⟩
  have hsz : w.heap.size + 2 ≤ w1.heap.size := by have := hb1.size; simpa using this
  have hgs : w.heap.size + 2 ≤ g := by simpa using hge
  have hN : w1.heap[w.heap.size]? = some (.cells #[.int .i64 0] 3 (0, 0)) := by
    rw [hb1.block w.heap.size (by simp; omega), Below.heap_alloc _ _ _ (by simp)]
    exact heap_alloc_new w _
  have hF : w1.heap[w.heap.size + 1]? = some (.cells #[.int .i64 0, .int .i64 0] 31 (0, 0)) := by
    rw [hb1.block (w.heap.size + 1) (by simp)]
    have := heap_alloc_new (w.alloc (.cells #[.int .i64 0] 3)) (.cells #[.int .i64 0, .int .i64 0] 31)
    rw [World.size_alloc] at this
    exact this
  have hglt := h1.lt
  have hss : (w1.setCell ⟨g, 4, none⟩ (.bool true)).heap.size = w1.heap.size := by simp [World.setCell]
  have hbV := (Below.refl (w1.setCell ⟨g, 4, none⟩ (.bool true)).heap.size (w1.setCell ⟨g, 4, none⟩ (.bool true))).alloc (Nat.le_refl _) (.cells #[.pointer (some ⟨g, 0, none⟩)] 26)
  have hnew := heap_alloc_new (w1.setCell ⟨g, 4, none⟩ (.bool true)) (.cells #[.pointer (some ⟨g, 0, none⟩)] 26)
  rw [hss] at hnew
  have hV1 : Vars ((w1.setCell ⟨g, 4, none⟩ (.bool true)).alloc (.cells #[.pointer (some ⟨g, 0, none⟩)] 26)) w1.heap.size w.heap.size (w.heap.size + 1) g :=
    ⟨hnew, ⟨0, (hbV.block _ (by rw [hss]; omega)).trans ((heap_setCell_other _ _ _ _ (by show w.heap.size ≠ g; omega)).trans hN)⟩,
      ⟨0, 0, (hbV.block _ (by rw [hss]; omega)).trans ((heap_setCell_other _ _ _ _ (by show w.heap.size + 1 ≠ g; omega)).trans hF)⟩, by omega, by omega, by omega, by omega, by omega, by omega⟩
  have HV := Lib.hid hV1
  have P1 := Lib.hid ((h1.put_tried true).below hbV)
  have G1 := Lib.hid ((grown_set w1 g 4 (.bool true)).trans (grown_below (row := some g) hbV))
  obtain ⟨x0, x1, x2, x3, x4⟩ := h1.cells
  have f4 := h1.free 4
  have HB1 := Lib.hid (HB0.out.trans (hb1.mono HB0.out.size))
  have HGL := Lib.hid hgs
  clear h1 hV1 hbV hb1 hN hF hnew hss hge
  go_wp2_with fail
  refine (read_any _ g A c P1.out).mono ?_
  rintro e w3 ⟨rfl, h3, hg3⟩
  have H3 := Lib.hid h3
  have V3 := Lib.hid (HV.out.grown hg3)
  have G3 := Lib.hid (G1.out.trans hg3)
  clear h3 hg3
  go_wp2
  refine leaves_cons (f := 30) (args := #[.pointer (some ⟨w1.heap.size, 0, none⟩), .pointer (some ⟨w.heap.size, 0, none⟩), .pointer (some ⟨w.heap.size + 1, 0, none⟩)]) (by simp) (by simp [go_sem]) ?_
  refine (catch_stop w3 w1.heap.size w.heap.size (w.heap.size + 1) g A c [1, 2] ⟨1, 11, 0⟩ true V3.out H3.out).mono ?_
  rintro e u' w4 ⟨rfl, rfl, hN4, hF4, h4, ho1, ho2, ho3, hsz4, hk4⟩
  have e1 : w4.cell? ⟨w.heap.size, 0, none⟩ = some (.int .i64 1) := by rw [cell_of_row _ _ 0 _ 3 (0, 0) hN4]; rfl
  have e2 : w4.cell? ⟨w.heap.size + 1, 0, none⟩ = some (.int .i64 11) := by rw [cell_of_row _ _ 0 _ 31 (0, 0) hF4]; rfl
  have e3 : w4.cell? ⟨w.heap.size + 1, 1, none⟩ = some (.int .i64 0) := by rw [cell_of_row _ _ 1 _ 31 (0, 0) hF4]; rfl
  simp [Leaves, settle, results, Try.results13, go_sem, e1, e2, e3]
  have hg3 := G3.out
  have hb := HB1.out
  have hgl := HGL.out
  exact ⟨ho1.trans (hg3.os.trans hb.os), ho2.trans (hg3.tape.trans hb.tape), ho3.trans (hg3.output.trans hb.output), Nat.le_trans hb.size (Nat.le_trans hg3.size hsz4), fun k hk =>
    (hk4 k (by have := hb.size; have := hg3.size; omega) (by omega) (by omega) (by omega)).trans ((hg3.block k (by have := hb.size; omega) (fun e => by have := Option.some.inj e; omega)).trans (hb.block k hk))⟩

theorem sl_made (w : World) (cs : List Int) (C : Array Value) (hC : C = (cs.map (Value.int .u8)).toArray) (hb : ∀ z ∈ cs, 0 ≤ z ∧ z < 256) : Sl (w.alloc (.cells C 5)) (some ⟨w.heap.size, 0, none⟩) cs.length cs := by
  subst hC
  refine ⟨rfl, hb, .inr ⟨w.heap.size, 0, rfl, by simp, fun i hi => ?_⟩⟩
  rw [cell_of_row _ w.heap.size (0 + i) _ 5 (0, 0) (heap_alloc_new w _), Nat.zero_add]
  simp only [List.getElem?_toArray, List.getElem?_map, List.getElem?_eq_getElem hi, Option.map_some, getD_lt hi]

set_option maxHeartbeats 4000000 in
theorem awake_any (w : World) : Calls Try.prog 9 #[] w fun e w' => e = .returned (.bool true) ∧ Below w.heap.size w w' := by
  have S0 := Lib.hid (sl_made w [1, 2, 3] #[.int .u8 1, .int .u8 2, .int .u8 3] rfl (by decide))
  have B0 := Lib.hid ((Below.refl w.heap.size w).alloc (Nat.le_refl _) (.cells #[.int .u8 1, .int .u8 2, .int .u8 3] 5))
  go_enter Try.func9, Try.ntmps9
  go_wp2_with fail
  refine (new_any _ 3 3 [1, 2, 3] _ S0.out (fun e => by cases e) (by decide)).mono ?_
  rintro e w1 ⟨g, A, c, rfl, h1, hge, hA, hb1⟩
  have hgw : w.heap.size ≤ g := by have := B0.out.size; omega
  have H1 := Lib.hid h1
  have B1 := Lib.hid (B0.out.trans (hb1.mono B0.out.size))
  have HGE := Lib.hid hgw
  clear h1 hge hA hb1 hgw
  go_wp2_with fail
  refine (byte_any w1 g A c [1, 2, 3] CS.start false H1.out (CS.fits_start (by decide))).mono ?_
  rintro e w2 ⟨rfl, h2, hg2⟩
  have H2 := Lib.hid (show IsCur w2 g A c [1, 2, 3] ⟨1, 0, 0⟩ false from h2)
  have B2 := Lib.hid (B1.out.grown hg2 B1.out.size (fun k hk => by cases hk; exact HGE.out))
  rw [show CS.start.byte [1, 2, 3] = 1 from by decide]
  have h2lt := Lib.hid H2.out.lt
  clear h2 hg2
  go_wp2_with fail
  refine (until_any w2 g A c [1, 2, 3] ⟨1, 0, 0⟩ false 3 (by decide) H2.out ⟨by decide, by decide, fun _ => rfl⟩).mono ?_
  rintro e w3 ⟨v, rfl, hown, h3, hg3⟩
  have hown' : OwnB w3 w2.heap.size v 1 [2] := hown
  obtain ⟨A3, c3, rfl, S3, t3, l3, hA3⟩ := hown'.shape
  have hgl := h2lt.out
  have H3 := Lib.hid (show IsCur w3 g A c [1, 2, 3] ⟨3, 0, 0⟩ false from h3)
  have HS3 := Lib.hid S3
  have B3 := Lib.hid (B2.out.grown hg3 B2.out.size (fun k hk => by cases hk; exact HGE.out))
  have hu : (CS.until ⟨1, 0, 0⟩ [1, 2, 3] 3).2.1 = true := by decide
  rw [hu]
  clear h3 hg3 hown hown' S3 hu
  go_wp2_with fail
  refine (byte_any w3 g A c [1, 2, 3] ⟨3, 0, 0⟩ false H3.out ⟨by decide, by decide, fun _ => rfl⟩).mono ?_
  rintro e w4 ⟨rfl, h4, hg4⟩
  have H4 := Lib.hid (show IsCur w4 g A c [1, 2, 3] ⟨3, 13, 3⟩ false from h4)
  have B4 := Lib.hid (B3.out.grown hg4 B3.out.size (fun k hk => by cases hk; exact HGE.out))
  rw [show CS.byte ⟨3, 0, 0⟩ [1, 2, 3] = 0 from by decide]
  have S4 := Lib.hid (HS3.out.grown hg4 (fun ad e e2 => by have := (hA3 ad e).1; have := Option.some.inj e2; omega))
  have SR := Lib.hid (sl_made w4 [1, 2] #[.int .u8 1, .int .u8 2] rfl (by decide))
  have BR := Lib.hid ((Below.refl w4.heap.size w4).alloc (Nat.le_refl _) (.cells #[.int .u8 1, .int .u8 2] 5))
  clear h4 hg4 hA3 hgl
  go_wp2_with fail
  refine (try_read _ 2 _ SR.out (fun e => by cases e)).mono ?_
  rintro e w5 ⟨rfl, hb5⟩
  have hb45 : Below w4.heap.size w4 w5 := BR.out.trans (hb5.mono BR.out.size)
  have H5 := Lib.hid (H4.out.below hb45)
  have S5 := Lib.hid (S4.out.below hb45)
  have B5 := Lib.hid (B4.out.trans (hb45.mono B4.out.size))
  clear hb5 hb45
  have BF := Lib.hid ((Below.refl w5.heap.size w5).alloc (Nat.le_refl _) (.cells #[.int .i64 11, .int .i64 0] 31))
  have hf0 : (w5.alloc (.cells #[.int .i64 11, .int .i64 0] 31)).heap[w5.heap.size]? = some (.cells #[.int .i64 11, .int .i64 0] 31 (0, 0)) := heap_alloc_new w5 _
  have HF0 := Lib.hid hf0
  have S6 := Lib.hid (S5.out.below BF.out)
  have H6 := Lib.hid (H5.out.below BF.out)
  have B6 := Lib.hid (B5.out.trans (BF.out.mono B5.out.size))
  clear hf0
  have BG := Lib.hid ((Below.refl (w5.alloc (.cells #[.int .i64 11, .int .i64 0] 31)).heap.size (w5.alloc (.cells #[.int .i64 11, .int .i64 0] 31))).alloc (Nat.le_refl _) (.cells #[.int .u8 2] 5))
  have s2 := sl_made (w5.alloc (.cells #[.int .i64 11, .int .i64 0] 31)) [2] #[.int .u8 2] rfl (by decide)
  rw [World.size_alloc] at s2
  have S2 := Lib.hid s2
  clear s2
  go_wp2_with fail
  refine (same_any A3 1 c3 [2] _ 1 1 [2] _ (S6.out.below BG.out) S2.out (by decide)).mono ?_
  rintro e w6 ⟨rfl, hb6⟩
  have BH := Lib.hid (BG.out.trans (hb6.mono BG.out.size))
  clear hb6
  rw [show (([2] : List Int) == [2]) = true from by decide]
  go_wp2_with fail
  refine (fault_any w6 g A c [1, 2, 3] ⟨3, 13, 3⟩ false (H6.out.below BH.out)).mono ?_
  rintro e w7 ⟨rfl, hb7⟩
  have BI := Lib.hid (BH.out.trans (hb7.mono BH.out.size))
  clear hb7
  have hf7 := (BI.out.block w5.heap.size (by simp)).trans HF0.out
  have q0 : w7.cell? ⟨w5.heap.size, 0, none⟩ = some (.int .i64 11) := by rw [cell_of_row _ _ 0 _ 31 (0, 0) hf7]; rfl
  have q1 : w7.cell? ⟨w5.heap.size, 1, none⟩ = some (.int .i64 0) := by rw [cell_of_row _ _ 1 _ 31 (0, 0) hf7]; rfl
  have B7 := Lib.hid (B6.out.trans (BI.out.mono B6.out.size))
  clear hf7
  go_wp2
  go_ret
  exact ⟨rfl, B7.out⟩
end Go.Proofs.Ytiikppiogglppaa

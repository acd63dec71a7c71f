-- Laid by the kit's print over bodies of the prover's own for a few functions
import Derived.Test.YtigchloekolaoaaPEventTellsx0
import Derived.Test.YtigchloekolaoaaPEventTellsx7
namespace Go.Proofs.Ytigchloekolaoaa.PEventTells
open Go.RowKit Go.Proofs.YtigchloekolaoaaW.PrintWords Go.Proofs.YtigchloekolaoaaW.PrintLast Go.Proofs.YtigchloekolaoaaW.PrintMore
attribute [local go_sem] max2_int min2_int max_two min_two max_three min_three max_four min_four   -- for this text's walks alone
set_option linter.unusedVariables false
set_option linter.unusedSimpArgs false

/-! ### forebayref21_Equal: function 25 -/
mutual
def forebayref21_Equal.l0 : Nat → List (S46) → List (S46) → Int → Option (Bool)
 | 0, _, _, _ => none
 | k + 1, x0, x1, x5 => if x5 < (x0.length : Int) then (if 0 ≤ x5 then (if x5 < (x1.length : Int) then (if ((rd_T46 x0 x5).f0) = ((rd_T46 x1 x5).f0) then (if ((rd_T46 x0 x5).f1) = ((rd_T46 x1 x5).f1) then (if ((rd_T46 x0 x5).f2) = ((rd_T46 x1 x5).f2) then (if ((rd_T46 x0 x5).f4) = ((rd_T46 x1 x5).f4) then (if ((rd_T46 x0 x5).f5) = ((rd_T46 x1 x5).f5) then (forebayref21_Equal.j1 k x0 x1 x5 ((((rd_T46 x0 x5).f3).length : Int) != (((rd_T46 x1 x5).f3).length : Int)) ((rd_T46 x0 x5).f0) ((rd_T46 x0 x5).f1) ((rd_T46 x0 x5).f2) ((rd_T46 x0 x5).f3) ((rd_T46 x0 x5).f4) ((rd_T46 x0 x5).f5) ((rd_T46 x1 x5).f0) ((rd_T46 x1 x5).f1) ((rd_T46 x1 x5).f2) ((rd_T46 x1 x5).f3) ((rd_T46 x1 x5).f4) ((rd_T46 x1 x5).f5)) else (forebayref21_Equal.j1 k x0 x1 x5 true ((rd_T46 x0 x5).f0) ((rd_T46 x0 x5).f1) ((rd_T46 x0 x5).f2) ((rd_T46 x0 x5).f3) ((rd_T46 x0 x5).f4) ((rd_T46 x0 x5).f5) ((rd_T46 x1 x5).f0) ((rd_T46 x1 x5).f1) ((rd_T46 x1 x5).f2) ((rd_T46 x1 x5).f3) ((rd_T46 x1 x5).f4) ((rd_T46 x1 x5).f5))) else (forebayref21_Equal.j1 k x0 x1 x5 true ((rd_T46 x0 x5).f0) ((rd_T46 x0 x5).f1) ((rd_T46 x0 x5).f2) ((rd_T46 x0 x5).f3) ((rd_T46 x0 x5).f4) ((rd_T46 x0 x5).f5) ((rd_T46 x1 x5).f0) ((rd_T46 x1 x5).f1) ((rd_T46 x1 x5).f2) ((rd_T46 x1 x5).f3) ((rd_T46 x1 x5).f4) ((rd_T46 x1 x5).f5))) else (forebayref21_Equal.j1 k x0 x1 x5 true ((rd_T46 x0 x5).f0) ((rd_T46 x0 x5).f1) ((rd_T46 x0 x5).f2) ((rd_T46 x0 x5).f3) ((rd_T46 x0 x5).f4) ((rd_T46 x0 x5).f5) ((rd_T46 x1 x5).f0) ((rd_T46 x1 x5).f1) ((rd_T46 x1 x5).f2) ((rd_T46 x1 x5).f3) ((rd_T46 x1 x5).f4) ((rd_T46 x1 x5).f5))) else (forebayref21_Equal.j1 k x0 x1 x5 true ((rd_T46 x0 x5).f0) ((rd_T46 x0 x5).f1) ((rd_T46 x0 x5).f2) ((rd_T46 x0 x5).f3) ((rd_T46 x0 x5).f4) ((rd_T46 x0 x5).f5) ((rd_T46 x1 x5).f0) ((rd_T46 x1 x5).f1) ((rd_T46 x1 x5).f2) ((rd_T46 x1 x5).f3) ((rd_T46 x1 x5).f4) ((rd_T46 x1 x5).f5))) else (forebayref21_Equal.j1 k x0 x1 x5 true ((rd_T46 x0 x5).f0) ((rd_T46 x0 x5).f1) ((rd_T46 x0 x5).f2) ((rd_T46 x0 x5).f3) ((rd_T46 x0 x5).f4) ((rd_T46 x0 x5).f5) ((rd_T46 x1 x5).f0) ((rd_T46 x1 x5).f1) ((rd_T46 x1 x5).f2) ((rd_T46 x1 x5).f3) ((rd_T46 x1 x5).f4) ((rd_T46 x1 x5).f5))) else (none)) else (none)) else (some true)
def forebayref21_Equal.j1 : Nat → List (S46) → List (S46) → Int → Bool → Int → Int → Int → List (S36) → Int → Int → Int → Int → Int → List (S36) → Int → Int → Option (Bool)
 | 0, _, _, _, _, _, _, _, _, _, _, _, _, _, _, _, _ => none
 | k + 1, x0, x1, x5, x69, x307000, x307001, x307002, x307003, x307004, x307005, x309000, x309001, x309002, x309003, x309004, x309005 => if x69 = true then (some false) else (forebayref21_Equal.l1 k x0 x1 x5 0 x307000 x307001 x307002 x307003 x307004 x307005 x309000 x309001 x309002 x309003 x309004 x309005)
def forebayref21_Equal.l1 : Nat → List (S46) → List (S46) → Int → Int → Int → Int → Int → List (S36) → Int → Int → Int → Int → Int → List (S36) → Int → Int → Option (Bool)
 | 0, _, _, _, _, _, _, _, _, _, _, _, _, _, _, _, _ => none
 | k + 1, x0, x1, x5, x8, x307000, x307001, x307002, x307003, x307004, x307005, x309000, x309001, x309002, x309003, x309004, x309005 => if x8 < (x307003.length : Int) then (if 0 ≤ x8 then (if x8 < (x309003.length : Int) then ((forebayref07_Equal.f k ((rd_T36 x307003 x8).f0) ((rd_T36 x307003 x8).f1) ((rd_T36 x307003 x8).f2) ((rd_T36 x307003 x8).f3) ((rd_T36 x307003 x8).f4) ((rd_T36 x307003 x8).f5) ((rd_T36 x309003 x8).f0) ((rd_T36 x309003 x8).f1) ((rd_T36 x309003 x8).f2) ((rd_T36 x309003 x8).f3) ((rd_T36 x309003 x8).f4) ((rd_T36 x309003 x8).f5)).bind fun t311 => (if t311 = true then (forebayref21_Equal.l1 k x0 x1 x5 (wrap64 (x8 + 1)) x307000 x307001 x307002 x307003 x307004 x307005 x309000 x309001 x309002 x309003 x309004 x309005) else (some false))) else (none)) else (none)) else (forebayref21_Equal.l0 k x0 x1 (wrap64 (x5 + 1)))
end
def forebayref21_Equal.f (k : Nat) (l0 : List (S46)) (l1 : List (S46)) : Option (Bool) := if (l0.length : Int) = (l1.length : Int) then (forebayref21_Equal.l0 k l0 l1 0) else (some false)
theorem forebayref21_Equal.mono_l : ∀ k, (∀ y0 y1 y2, LeO (forebayref21_Equal.l0 k y0 y1 y2) (forebayref21_Equal.l0 (k + 1) y0 y1 y2)) ∧ (∀ y0 y1 y2 y3 y4 y5 y6 y7 y8 y9 y10 y11 y12 y13 y14 y15, LeO (forebayref21_Equal.j1 k y0 y1 y2 y3 y4 y5 y6 y7 y8 y9 y10 y11 y12 y13 y14 y15) (forebayref21_Equal.j1 (k + 1) y0 y1 y2 y3 y4 y5 y6 y7 y8 y9 y10 y11 y12 y13 y14 y15)) ∧ (∀ y0 y1 y2 y3 y4 y5 y6 y7 y8 y9 y10 y11 y12 y13 y14 y15, LeO (forebayref21_Equal.l1 k y0 y1 y2 y3 y4 y5 y6 y7 y8 y9 y10 y11 y12 y13 y14 y15) (forebayref21_Equal.l1 (k + 1) y0 y1 y2 y3 y4 y5 y6 y7 y8 y9 y10 y11 y12 y13 y14 y15))
 | 0 => ⟨fun _ _ _ r h => by simp [forebayref21_Equal.l0] at h, fun _ _ _ _ _ _ _ _ _ _ _ _ _ _ _ _ r h => by simp [forebayref21_Equal.j1] at h, fun _ _ _ _ _ _ _ _ _ _ _ _ _ _ _ _ r h => by simp [forebayref21_Equal.l1] at h⟩
 | k + 1 => by
  obtain ⟨ih0, ih1, ih2⟩ := forebayref21_Equal.mono_l k
  refine ⟨?_, ?_, ?_⟩
  ·intro y0 y1 y2
   unfold forebayref21_Equal.l0
   repeat' first
   | (with_reducible exact ih0 _ _ _)
   | (with_reducible exact ih1 _ _ _ _ _ _ _ _ _ _ _ _ _ _ _ _)
   | (with_reducible exact ih2 _ _ _ _ _ _ _ _ _ _ _ _ _ _ _ _)
   | (with_reducible exact forebayref07_Equal.mono _ _ _ _ _ _ _ _ _ _ _ _ _)
   | (with_reducible exact LeO.refl _)
   | (with_reducible exact LeO.none _)
   | (with_reducible refine LeO.ite ?_ ?_)
   | (with_reducible refine LeO.bind ?_ (fun _ => ?_))
   | exact ih0 _ _ _
   | exact ih1 _ _ _ _ _ _ _ _ _ _ _ _ _ _ _ _
   | exact ih2 _ _ _ _ _ _ _ _ _ _ _ _ _ _ _ _
   | exact forebayref07_Equal.mono _ _ _ _ _ _ _ _ _ _ _ _ _
   | exact LeO.none _
   | refine LeO.ite ?_ ?_
   | refine LeO.bind ?_ (fun _ => ?_)
  ·intro y0 y1 y2 y3 y4 y5 y6 y7 y8 y9 y10 y11 y12 y13 y14 y15
   unfold forebayref21_Equal.j1
   repeat' first
   | (with_reducible exact ih0 _ _ _)
   | (with_reducible exact ih1 _ _ _ _ _ _ _ _ _ _ _ _ _ _ _ _)
   | (with_reducible exact ih2 _ _ _ _ _ _ _ _ _ _ _ _ _ _ _ _)
   | (with_reducible exact forebayref07_Equal.mono _ _ _ _ _ _ _ _ _ _ _ _ _)
   | (with_reducible exact LeO.refl _)
   | (with_reducible exact LeO.none _)
   | (with_reducible refine LeO.ite ?_ ?_)
   | (with_reducible refine LeO.bind ?_ (fun _ => ?_))
   | exact ih0 _ _ _
   | exact ih1 _ _ _ _ _ _ _ _ _ _ _ _ _ _ _ _
   | exact ih2 _ _ _ _ _ _ _ _ _ _ _ _ _ _ _ _
   | exact forebayref07_Equal.mono _ _ _ _ _ _ _ _ _ _ _ _ _
   | exact LeO.none _
   | refine LeO.ite ?_ ?_
   | refine LeO.bind ?_ (fun _ => ?_)
  ·intro y0 y1 y2 y3 y4 y5 y6 y7 y8 y9 y10 y11 y12 y13 y14 y15
   unfold forebayref21_Equal.l1
   repeat' first
   | (with_reducible exact ih0 _ _ _)
   | (with_reducible exact ih1 _ _ _ _ _ _ _ _ _ _ _ _ _ _ _ _)
   | (with_reducible exact ih2 _ _ _ _ _ _ _ _ _ _ _ _ _ _ _ _)
   | (with_reducible exact forebayref07_Equal.mono _ _ _ _ _ _ _ _ _ _ _ _ _)
   | (with_reducible exact LeO.refl _)
   | (with_reducible exact LeO.none _)
   | (with_reducible refine LeO.ite ?_ ?_)
   | (with_reducible refine LeO.bind ?_ (fun _ => ?_))
   | exact ih0 _ _ _
   | exact ih1 _ _ _ _ _ _ _ _ _ _ _ _ _ _ _ _
   | exact ih2 _ _ _ _ _ _ _ _ _ _ _ _ _ _ _ _
   | exact forebayref07_Equal.mono _ _ _ _ _ _ _ _ _ _ _ _ _
   | exact LeO.none _
   | refine LeO.ite ?_ ?_
   | refine LeO.bind ?_ (fun _ => ?_)
theorem forebayref21_Equal.mono : ∀ a0 a1 k, LeO (forebayref21_Equal.f k a0 a1) (forebayref21_Equal.f (k + 1) a0 a1) := by
 intro a0 a1 k
 obtain ⟨ih0, ih1, ih2⟩ := forebayref21_Equal.mono_l k
 unfold forebayref21_Equal.f
 repeat' first
   | (with_reducible exact ih0 _ _ _)
   | (with_reducible exact ih1 _ _ _ _ _ _ _ _ _ _ _ _ _ _ _ _)
   | (with_reducible exact ih2 _ _ _ _ _ _ _ _ _ _ _ _ _ _ _ _)
   | (with_reducible exact forebayref07_Equal.mono _ _ _ _ _ _ _ _ _ _ _ _ _)
   | (with_reducible exact LeO.refl _)
   | (with_reducible exact LeO.none _)
   | (with_reducible refine LeO.ite ?_ ?_)
   | (with_reducible refine LeO.bind ?_ (fun _ => ?_))
   | exact ih0 _ _ _
   | exact ih1 _ _ _ _ _ _ _ _ _ _ _ _ _ _ _ _
   | exact ih2 _ _ _ _ _ _ _ _ _ _ _ _ _ _ _ _
   | exact forebayref07_Equal.mono _ _ _ _ _ _ _ _ _ _ _ _ _
   | exact LeO.none _
   | refine LeO.ite ?_ ?_
   | refine LeO.bind ?_ (fun _ => ?_)
def forebayref21_Equal.T13 : Bool × List (List Nat × List Nat) := (true, [([], []), ([0], [0]), ([], []), ([1, 2], [1, 2]), ([3], [3]), ([], []), ([5], [5]), ([], []), ([6, 7], [6, 7]), ([8], [8]), ([4, 9], [4, 9]), ([10], [10])])
def forebayref21_Equal.B13 : List Nat := [0, 1, 0, 7, 15, 0, 32, 0, 224, 480, 1023, 2047]
theorem forebayref21_Equal.tab13 : rtab .any (opsOf Try.f25 13) = forebayref21_Equal.T13 := by kernel_rfl
theorem forebayref21_Equal.bits13 : waitsOk forebayref21_Equal.T13.2 forebayref21_Equal.B13 = true := by kernel_rfl
set_option maxHeartbeats 8000000 in
set_option maxRecDepth 100000 in
theorem forebayref21_Equal.calls (k : Nat) (A0 : Option Addr) (c0 : Nat) (l0 : List (S46)) (A1 : Option Addr) (c1 : Nat) (l1 : List (S46)) (r : Bool) (w : World) (hr0 : Kd.C k46 w A0 l0.length l0) (hc0 : l0.length ≤ c0) (hr1 : Kd.C k46 w A1 l1.length l1) (hc1 : l1.length ≤ c1) (h : forebayref21_Equal.f k l0 l1 = some r) :
  Calls Try.prog 25 #[.slice A0 l0.length c0, .slice A1 l1.length c1] w fun e w' => e = .returned (.bool r) ∧ Below w.heap.size w w' := by
 have hu46 := Try.underlying46
 have hu36 := Try.underlying36
 have HR0 := Aside0.mk hr0
 have HC0 := Aside0.mk hc0
 clear hr0 hc0
 have HR1 := Aside0.mk hr1
 have HC1 := Aside0.mk hc1
 clear hr1 hc1
 have HB := Aside0.mk (Below.refl w.heap.size w)
 have H : (if (l0.length : Int) = (l1.length : Int) then (forebayref21_Equal.l0 k l0 l1 0) else (some false)) = some r := h
 clear h
 by_cases c3 : (l0.length : Int) = (l1.length : Int)
 ·rw [if_pos c3] at H
  have c3b0 : ((l0.length : Int) == (l1.length : Int)) = true := beq_iff_eq.mpr c3
  have c3b1 : ((l0.length : Int) != (l1.length : Int)) = false := bne_eq_false_iff_eq.mpr c3
  have c3b2 : (l0.length == l1.length) = true := by first | simpa using c3 | (simp at c3 ⊢; omega)
  clear c3
  have H' := Aside0.mk H
  clear H
  go_enter Try.func25, Try.ntmps25
  go_wp2
  go_loopg [5] k (fun kq v5 w' => ∃ (x5_1 : Int), v5 = .int .i64 x5_1 ∧ Aside0 (forebayref21_Equal.l0 kq l0 l1 x5_1 = some r) ∧ Aside0 (kq ≤ k) ∧ Aside0 (Below w.heap.size w w'))
  case atStart => exact ⟨(0), (by first | rfl | (simp; done) | (simp [*]; done)), H', ⟨Nat.le_refl _⟩, ⟨by repeat (first | (with_reducible first | exact HB.out | apply below_alloc | apply pw_below_drewN | apply below_drew1) | exact HB.out)⟩⟩
  case round =>
   clear H'
   try clear c1
   try clear c2
   try clear p2
   try clear c3
   try clear c3b0
   try clear c3b1
   try clear c3b2
   obtain ⟨x5_1, rfl, HA, HK1, HB⟩ := hrel
   cases gk with
   | zero => exact absurd HA.out (by simp [forebayref21_Equal.l0])
   | succ k1 =>
    have H := HA.out
    clear HA
    simp only [forebayref21_Equal.l0] at H
    by_cases c4 : x5_1 < (l0.length : Int)
    ·rw [if_pos c4] at H
     have c4b0 : decide (x5_1 < (l0.length : Int)) = true := decide_eq_true c4
     clear c4
     by_cases c5 : 0 ≤ x5_1
     ·rw [if_pos c5] at H
      have c5b0 : decide (0 ≤ x5_1) = true := decide_eq_true c5
      clear c5
      by_cases c6 : x5_1 < (l1.length : Int)
      ·rw [if_pos c6] at H
       have c6b0 : decide (x5_1 < (l1.length : Int)) = true := decide_eq_true c6
       clear c6
       have HC7 := Aside0.mk H
       clear H
       have p305 : 0 ≤ (x5_1 : Int) := of_decide_eq_true (by first | (with_reducible assumption) | assumption)
       have q305 : x5_1 < (l0.length : Int) := of_decide_eq_true (by first | (with_reducible assumption) | assumption)
       obtain ⟨ad305, A305_3, c305_3, e305, hx305_0, hx305_1, hx305_2, hx305_3, hx305_4, hx305_5, hl305_3, hi305_3⟩ := at_T46 HR0.out x5_1 p305 q305
       cases e305
       replace hx305_0 := (HB.out.cell (World.block_lt_of_cell? w _ hx305_0)).trans hx305_0
       replace hx305_1 := (HB.out.cell (World.block_lt_of_cell? w _ hx305_1)).trans hx305_1
       replace hx305_2 := (HB.out.cell (World.block_lt_of_cell? w _ hx305_2)).trans hx305_2
       replace hx305_3 := (HB.out.cell (World.block_lt_of_cell? w _ hx305_3)).trans hx305_3
       replace hx305_4 := (HB.out.cell (World.block_lt_of_cell? w _ hx305_4)).trans hx305_4
       replace hx305_5 := (HB.out.cell (World.block_lt_of_cell? w _ hx305_5)).trans hx305_5
       have HR305_3 := Aside0.mk hi305_3
       have HC305_3 := Aside0.mk hl305_3
       clear hi305_3 hl305_3
       replace p305 := eq_true p305
       replace q305 := eq_true q305
       go_upto_region 8 with (first | ((with_reducible refine gate_dst (N := 6) rfl ?_); (try (refine gate_guard (by rfl) ?_; dsimp only)); refine box_event ?hg (N := 6) ?hd (cs := #[.int .i64 0, .int .i64 0, .int .i64 0, .slice none 0 0, .int .i64 0, .int .i64 0]) (t := 46) ?hr ?_; (case hd => rfl); (case hg => rfl); (case hr => first | (go_simp; done) | (go_simp; rfl)); intro gb306 hg w8 hbox hb; have n0_ := Aside0.mk (below_step (by repeat (first | (with_reducible first | exact HB.out | apply below_alloc | apply pw_below_drewN | apply below_drew1) | exact HB.out)) hb); have n1_ := Aside0.mk (hbox); have n2_ := Aside0.mk ((by rw [hg]; exact (below_size (by repeat (first | (with_reducible first | exact HB.out | apply below_alloc | apply pw_below_drewN | apply below_drew1) | exact HB.out))) : w.heap.size ≤ gb306)); have n3_ := Aside0.mk ((by rw [hg]; exact (below_size (by repeat (first | (with_reducible first | exact HB.out | apply below_alloc | apply pw_below_drewN | apply below_drew1) | exact HB.out))) : w.heap.size ≤ gb306)); clear HB; have HB := n0_; have BK306 := n1_; have GW306 := n2_; have GE306 := n3_; clear n0_ n1_ n2_ n3_; clear hb hbox hg; have hcz9_0 : w8.cell? ⟨gb306, 0, none⟩ = some (.int .i64 0) := (blk_cell BK306.out 0).trans rfl; have hcz9_1 : w8.cell? ⟨gb306, 1, none⟩ = some (.int .i64 0) := (blk_cell BK306.out 1).trans rfl; have hcz9_2 : w8.cell? ⟨gb306, 2, none⟩ = some (.int .i64 0) := (blk_cell BK306.out 2).trans rfl; have hcz9_3 : w8.cell? ⟨gb306, 3, none⟩ = some (.slice none 0 0) := (blk_cell BK306.out 3).trans rfl; have hcz9_4 : w8.cell? ⟨gb306, 4, none⟩ = some (.int .i64 0) := (blk_cell BK306.out 4).trans rfl; have hcz9_5 : w8.cell? ⟨gb306, 5, none⟩ = some (.int .i64 0) := (blk_cell BK306.out 5).trans rfl; have hfz9_0 := blk_frozen BK306.out 0; have hfz9_1 := blk_frozen BK306.out 1; have hfz9_2 := blk_frozen BK306.out 2; have hfz9_3 := blk_frozen BK306.out 3; have hfz9_4 := blk_frozen BK306.out 4; have hfz9_5 := blk_frozen BK306.out 5; have p307 : 0 ≤ (x5_1 : Int) := of_decide_eq_true (by first | (with_reducible assumption) | assumption); have q307 : x5_1 < (l1.length : Int) := of_decide_eq_true (by first | (with_reducible assumption) | assumption); obtain ⟨ad307, A307_3, c307_3, e307, hx307_0, hx307_1, hx307_2, hx307_3, hx307_4, hx307_5, hl307_3, hi307_3⟩ := at_T46 HR1.out x5_1 p307 q307; cases e307; have hn307_0 : ad307.block ≠ gb306 := Nat.ne_of_lt (Nat.lt_of_lt_of_le (by have := World.block_lt_of_cell? _ _ hx307_0; first | rwa [add_block] at this | exact this) GW306.out); have hn307_1 : ad307.block ≠ gb306 := Nat.ne_of_lt (Nat.lt_of_lt_of_le (by have := World.block_lt_of_cell? _ _ hx307_0; first | rwa [add_block] at this | exact this) GW306.out); have hn307_2 : ad307.block ≠ gb306 := Nat.ne_of_lt (Nat.lt_of_lt_of_le (by have := World.block_lt_of_cell? _ _ hx307_0; first | rwa [add_block] at this | exact this) GW306.out); have hn307_3 : ad307.block ≠ gb306 := Nat.ne_of_lt (Nat.lt_of_lt_of_le (by have := World.block_lt_of_cell? _ _ hx307_0; first | rwa [add_block] at this | exact this) GW306.out); have hn307_4 : ad307.block ≠ gb306 := Nat.ne_of_lt (Nat.lt_of_lt_of_le (by have := World.block_lt_of_cell? _ _ hx307_0; first | rwa [add_block] at this | exact this) GW306.out); have hn307_5 : ad307.block ≠ gb306 := Nat.ne_of_lt (Nat.lt_of_lt_of_le (by have := World.block_lt_of_cell? _ _ hx307_0; first | rwa [add_block] at this | exact this) GW306.out); replace hx307_0 := (HB.out.cell (World.block_lt_of_cell? w _ hx307_0)).trans hx307_0; replace hx307_1 := (HB.out.cell (World.block_lt_of_cell? w _ hx307_1)).trans hx307_1; replace hx307_2 := (HB.out.cell (World.block_lt_of_cell? w _ hx307_2)).trans hx307_2; replace hx307_3 := (HB.out.cell (World.block_lt_of_cell? w _ hx307_3)).trans hx307_3; replace hx307_4 := (HB.out.cell (World.block_lt_of_cell? w _ hx307_4)).trans hx307_4; replace hx307_5 := (HB.out.cell (World.block_lt_of_cell? w _ hx307_5)).trans hx307_5; have HR307_3 := Aside0.mk hi307_3; have HC307_3 := Aside0.mk hl307_3; clear hi307_3 hl307_3; replace hx307_0 := (cell_far (p := ⟨gb306, 0, none⟩) (by first | (rw [add_block]; exact hn307_0) | (show (Addr.add _ _).block ≠ _; rw [add_block]; exact hn307_0) | exact hn307_0) (.int .i64 ((rd_T46 l0 x5_1).f0))).trans hx307_0; replace hx307_1 := (cell_far (p := ⟨gb306, 0, none⟩) (by first | (rw [add_block]; exact hn307_0) | (show (Addr.add _ _).block ≠ _; rw [add_block]; exact hn307_0) | exact hn307_0) (.int .i64 ((rd_T46 l0 x5_1).f0))).trans hx307_1; replace hx307_2 := (cell_far (p := ⟨gb306, 0, none⟩) (by first | (rw [add_block]; exact hn307_0) | (show (Addr.add _ _).block ≠ _; rw [add_block]; exact hn307_0) | exact hn307_0) (.int .i64 ((rd_T46 l0 x5_1).f0))).trans hx307_2; replace hx307_3 := (cell_far (p := ⟨gb306, 0, none⟩) (by first | (rw [add_block]; exact hn307_0) | (show (Addr.add _ _).block ≠ _; rw [add_block]; exact hn307_0) | exact hn307_0) (.int .i64 ((rd_T46 l0 x5_1).f0))).trans hx307_3; replace hx307_4 := (cell_far (p := ⟨gb306, 0, none⟩) (by first | (rw [add_block]; exact hn307_0) | (show (Addr.add _ _).block ≠ _; rw [add_block]; exact hn307_0) | exact hn307_0) (.int .i64 ((rd_T46 l0 x5_1).f0))).trans hx307_4; replace hx307_5 := (cell_far (p := ⟨gb306, 0, none⟩) (by first | (rw [add_block]; exact hn307_0) | (show (Addr.add _ _).block ≠ _; rw [add_block]; exact hn307_0) | exact hn307_0) (.int .i64 ((rd_T46 l0 x5_1).f0))).trans hx307_5; replace hx307_0 := (cell_far (p := ⟨gb306, 1, none⟩) (by first | (rw [add_block]; exact hn307_1) | (show (Addr.add _ _).block ≠ _; rw [add_block]; exact hn307_1) | exact hn307_1) (.int .i64 ((rd_T46 l0 x5_1).f1))).trans hx307_0; replace hx307_1 := (cell_far (p := ⟨gb306, 1, none⟩) (by first | (rw [add_block]; exact hn307_1) | (show (Addr.add _ _).block ≠ _; rw [add_block]; exact hn307_1) | exact hn307_1) (.int .i64 ((rd_T46 l0 x5_1).f1))).trans hx307_1; replace hx307_2 := (cell_far (p := ⟨gb306, 1, none⟩) (by first | (rw [add_block]; exact hn307_1) | (show (Addr.add _ _).block ≠ _; rw [add_block]; exact hn307_1) | exact hn307_1) (.int .i64 ((rd_T46 l0 x5_1).f1))).trans hx307_2; replace hx307_3 := (cell_far (p := ⟨gb306, 1, none⟩) (by first | (rw [add_block]; exact hn307_1) | (show (Addr.add _ _).block ≠ _; rw [add_block]; exact hn307_1) | exact hn307_1) (.int .i64 ((rd_T46 l0 x5_1).f1))).trans hx307_3; replace hx307_4 := (cell_far (p := ⟨gb306, 1, none⟩) (by first | (rw [add_block]; exact hn307_1) | (show (Addr.add _ _).block ≠ _; rw [add_block]; exact hn307_1) | exact hn307_1) (.int .i64 ((rd_T46 l0 x5_1).f1))).trans hx307_4; replace hx307_5 := (cell_far (p := ⟨gb306, 1, none⟩) (by first | (rw [add_block]; exact hn307_1) | (show (Addr.add _ _).block ≠ _; rw [add_block]; exact hn307_1) | exact hn307_1) (.int .i64 ((rd_T46 l0 x5_1).f1))).trans hx307_5; replace hx307_0 := (cell_far (p := ⟨gb306, 2, none⟩) (by first | (rw [add_block]; exact hn307_2) | (show (Addr.add _ _).block ≠ _; rw [add_block]; exact hn307_2) | exact hn307_2) (.int .i64 ((rd_T46 l0 x5_1).f2))).trans hx307_0; replace hx307_1 := (cell_far (p := ⟨gb306, 2, none⟩) (by first | (rw [add_block]; exact hn307_2) | (show (Addr.add _ _).block ≠ _; rw [add_block]; exact hn307_2) | exact hn307_2) (.int .i64 ((rd_T46 l0 x5_1).f2))).trans hx307_1; replace hx307_2 := (cell_far (p := ⟨gb306, 2, none⟩) (by first | (rw [add_block]; exact hn307_2) | (show (Addr.add _ _).block ≠ _; rw [add_block]; exact hn307_2) | exact hn307_2) (.int .i64 ((rd_T46 l0 x5_1).f2))).trans hx307_2; replace hx307_3 := (cell_far (p := ⟨gb306, 2, none⟩) (by first | (rw [add_block]; exact hn307_2) | (show (Addr.add _ _).block ≠ _; rw [add_block]; exact hn307_2) | exact hn307_2) (.int .i64 ((rd_T46 l0 x5_1).f2))).trans hx307_3; replace hx307_4 := (cell_far (p := ⟨gb306, 2, none⟩) (by first | (rw [add_block]; exact hn307_2) | (show (Addr.add _ _).block ≠ _; rw [add_block]; exact hn307_2) | exact hn307_2) (.int .i64 ((rd_T46 l0 x5_1).f2))).trans hx307_4; replace hx307_5 := (cell_far (p := ⟨gb306, 2, none⟩) (by first | (rw [add_block]; exact hn307_2) | (show (Addr.add _ _).block ≠ _; rw [add_block]; exact hn307_2) | exact hn307_2) (.int .i64 ((rd_T46 l0 x5_1).f2))).trans hx307_5; replace hx307_0 := (cell_far (p := ⟨gb306, 3, none⟩) (by first | (rw [add_block]; exact hn307_3) | (show (Addr.add _ _).block ≠ _; rw [add_block]; exact hn307_3) | exact hn307_3) (.slice A305_3 ((rd_T46 l0 x5_1).f3).length c305_3)).trans hx307_0; replace hx307_1 := (cell_far (p := ⟨gb306, 3, none⟩) (by first | (rw [add_block]; exact hn307_3) | (show (Addr.add _ _).block ≠ _; rw [add_block]; exact hn307_3) | exact hn307_3) (.slice A305_3 ((rd_T46 l0 x5_1).f3).length c305_3)).trans hx307_1; replace hx307_2 := (cell_far (p := ⟨gb306, 3, none⟩) (by first | (rw [add_block]; exact hn307_3) | (show (Addr.add _ _).block ≠ _; rw [add_block]; exact hn307_3) | exact hn307_3) (.slice A305_3 ((rd_T46 l0 x5_1).f3).length c305_3)).trans hx307_2; replace hx307_3 := (cell_far (p := ⟨gb306, 3, none⟩) (by first | (rw [add_block]; exact hn307_3) | (show (Addr.add _ _).block ≠ _; rw [add_block]; exact hn307_3) | exact hn307_3) (.slice A305_3 ((rd_T46 l0 x5_1).f3).length c305_3)).trans hx307_3; replace hx307_4 := (cell_far (p := ⟨gb306, 3, none⟩) (by first | (rw [add_block]; exact hn307_3) | (show (Addr.add _ _).block ≠ _; rw [add_block]; exact hn307_3) | exact hn307_3) (.slice A305_3 ((rd_T46 l0 x5_1).f3).length c305_3)).trans hx307_4; replace hx307_5 := (cell_far (p := ⟨gb306, 3, none⟩) (by first | (rw [add_block]; exact hn307_3) | (show (Addr.add _ _).block ≠ _; rw [add_block]; exact hn307_3) | exact hn307_3) (.slice A305_3 ((rd_T46 l0 x5_1).f3).length c305_3)).trans hx307_5; replace hx307_0 := (cell_far (p := ⟨gb306, 4, none⟩) (by first | (rw [add_block]; exact hn307_4) | (show (Addr.add _ _).block ≠ _; rw [add_block]; exact hn307_4) | exact hn307_4) (.int .i64 ((rd_T46 l0 x5_1).f4))).trans hx307_0; replace hx307_1 := (cell_far (p := ⟨gb306, 4, none⟩) (by first | (rw [add_block]; exact hn307_4) | (show (Addr.add _ _).block ≠ _; rw [add_block]; exact hn307_4) | exact hn307_4) (.int .i64 ((rd_T46 l0 x5_1).f4))).trans hx307_1; replace hx307_2 := (cell_far (p := ⟨gb306, 4, none⟩) (by first | (rw [add_block]; exact hn307_4) | (show (Addr.add _ _).block ≠ _; rw [add_block]; exact hn307_4) | exact hn307_4) (.int .i64 ((rd_T46 l0 x5_1).f4))).trans hx307_2; replace hx307_3 := (cell_far (p := ⟨gb306, 4, none⟩) (by first | (rw [add_block]; exact hn307_4) | (show (Addr.add _ _).block ≠ _; rw [add_block]; exact hn307_4) | exact hn307_4) (.int .i64 ((rd_T46 l0 x5_1).f4))).trans hx307_3; replace hx307_4 := (cell_far (p := ⟨gb306, 4, none⟩) (by first | (rw [add_block]; exact hn307_4) | (show (Addr.add _ _).block ≠ _; rw [add_block]; exact hn307_4) | exact hn307_4) (.int .i64 ((rd_T46 l0 x5_1).f4))).trans hx307_4; replace hx307_5 := (cell_far (p := ⟨gb306, 4, none⟩) (by first | (rw [add_block]; exact hn307_4) | (show (Addr.add _ _).block ≠ _; rw [add_block]; exact hn307_4) | exact hn307_4) (.int .i64 ((rd_T46 l0 x5_1).f4))).trans hx307_5; replace hx307_0 := (cell_far (p := ⟨gb306, 5, none⟩) (by first | (rw [add_block]; exact hn307_5) | (show (Addr.add _ _).block ≠ _; rw [add_block]; exact hn307_5) | exact hn307_5) (.int .i64 ((rd_T46 l0 x5_1).f5))).trans hx307_0; replace hx307_1 := (cell_far (p := ⟨gb306, 5, none⟩) (by first | (rw [add_block]; exact hn307_5) | (show (Addr.add _ _).block ≠ _; rw [add_block]; exact hn307_5) | exact hn307_5) (.int .i64 ((rd_T46 l0 x5_1).f5))).trans hx307_1; replace hx307_2 := (cell_far (p := ⟨gb306, 5, none⟩) (by first | (rw [add_block]; exact hn307_5) | (show (Addr.add _ _).block ≠ _; rw [add_block]; exact hn307_5) | exact hn307_5) (.int .i64 ((rd_T46 l0 x5_1).f5))).trans hx307_2; replace hx307_3 := (cell_far (p := ⟨gb306, 5, none⟩) (by first | (rw [add_block]; exact hn307_5) | (show (Addr.add _ _).block ≠ _; rw [add_block]; exact hn307_5) | exact hn307_5) (.int .i64 ((rd_T46 l0 x5_1).f5))).trans hx307_3; replace hx307_4 := (cell_far (p := ⟨gb306, 5, none⟩) (by first | (rw [add_block]; exact hn307_5) | (show (Addr.add _ _).block ≠ _; rw [add_block]; exact hn307_5) | exact hn307_5) (.int .i64 ((rd_T46 l0 x5_1).f5))).trans hx307_4; replace hx307_5 := (cell_far (p := ⟨gb306, 5, none⟩) (by first | (rw [add_block]; exact hn307_5) | (show (Addr.add _ _).block ≠ _; rw [add_block]; exact hn307_5) | exact hn307_5) (.int .i64 ((rd_T46 l0 x5_1).f5))).trans hx307_5; clear hn307_0; clear hn307_1; clear hn307_2; clear hn307_3; clear hn307_4; clear hn307_5; replace p307 := eq_true p307; replace q307 := eq_true q307) | ((with_reducible refine gate_dst (N := 7) rfl ?_); (try (refine gate_guard (by rfl) ?_; dsimp only)); refine box_event ?hg (N := 7) ?hd (cs := #[.int .i64 0, .int .i64 0, .int .i64 0, .slice none 0 0, .int .i64 0, .int .i64 0]) (t := 46) ?hr ?_; (case hd => rfl); (case hg => rfl); (case hr => first | (go_simp; done) | (go_simp; rfl)); intro gb308 hg w10 hbox hb; have n0_ := Aside0.mk (blk_below (g := gb306) (o := .cells #[.int .i64 ((rd_T46 l0 x5_1).f0), .int .i64 ((rd_T46 l0 x5_1).f1), .int .i64 ((rd_T46 l0 x5_1).f2), .slice A305_3 ((rd_T46 l0 x5_1).f3).length c305_3, .int .i64 ((rd_T46 l0 x5_1).f4), .int .i64 ((rd_T46 l0 x5_1).f5)] 46 (0, 0)) (by (with_reducible repeat (first | refine blk_drewN ?_ _ | refine blk_drew ?_ | refine blk_alloc ?_ _)); refine blk_put (cs := #[.int .i64 ((rd_T46 l0 x5_1).f0), .int .i64 ((rd_T46 l0 x5_1).f1), .int .i64 ((rd_T46 l0 x5_1).f2), .slice A305_3 ((rd_T46 l0 x5_1).f3).length c305_3, .int .i64 ((rd_T46 l0 x5_1).f4), .int .i64 0]) ?_ 5 _ rfl; (with_reducible repeat (first | refine blk_drewN ?_ _ | refine blk_drew ?_ | refine blk_alloc ?_ _)); refine blk_put (cs := #[.int .i64 ((rd_T46 l0 x5_1).f0), .int .i64 ((rd_T46 l0 x5_1).f1), .int .i64 ((rd_T46 l0 x5_1).f2), .slice A305_3 ((rd_T46 l0 x5_1).f3).length c305_3, .int .i64 0, .int .i64 0]) ?_ 4 _ rfl; (with_reducible repeat (first | refine blk_drewN ?_ _ | refine blk_drew ?_ | refine blk_alloc ?_ _)); refine blk_put (cs := #[.int .i64 ((rd_T46 l0 x5_1).f0), .int .i64 ((rd_T46 l0 x5_1).f1), .int .i64 ((rd_T46 l0 x5_1).f2), .slice none 0 0, .int .i64 0, .int .i64 0]) ?_ 3 _ rfl; (with_reducible repeat (first | refine blk_drewN ?_ _ | refine blk_drew ?_ | refine blk_alloc ?_ _)); refine blk_put (cs := #[.int .i64 ((rd_T46 l0 x5_1).f0), .int .i64 ((rd_T46 l0 x5_1).f1), .int .i64 0, .slice none 0 0, .int .i64 0, .int .i64 0]) ?_ 2 _ rfl; (with_reducible repeat (first | refine blk_drewN ?_ _ | refine blk_drew ?_ | refine blk_alloc ?_ _)); refine blk_put (cs := #[.int .i64 ((rd_T46 l0 x5_1).f0), .int .i64 0, .int .i64 0, .slice none 0 0, .int .i64 0, .int .i64 0]) ?_ 1 _ rfl; (with_reducible repeat (first | refine blk_drewN ?_ _ | refine blk_drew ?_ | refine blk_alloc ?_ _)); refine blk_put (cs := #[.int .i64 0, .int .i64 0, .int .i64 0, .slice none 0 0, .int .i64 0, .int .i64 0]) ?_ 0 _ rfl; (with_reducible repeat (first | refine blk_drewN ?_ _ | refine blk_drew ?_ | refine blk_alloc ?_ _)); exact BK306.out) hb); have n1_ := Aside0.mk (below_step (by repeat (first | (with_reducible first | exact HB.out | apply below_alloc | apply pw_below_drewN | apply below_drew1 | refine below_set ?_ GE306.out) | exact HB.out)) hb); have n2_ := Aside0.mk (hbox); have n3_ := Aside0.mk ((by rw [hg]; exact (below_size (by repeat (first | (with_reducible first | exact HB.out | apply below_alloc | apply pw_below_drewN | apply below_drew1 | refine below_set ?_ GE306.out) | exact HB.out))) : w.heap.size ≤ gb308)); have n4_ := Aside0.mk ((by rw [hg]; exact (below_size (by repeat (first | (with_reducible first | exact HB.out | apply below_alloc | apply pw_below_drewN | apply below_drew1 | refine below_set ?_ GE306.out) | exact HB.out))) : w.heap.size ≤ gb308)); have n5_ := Aside0.mk ((by rw [hg]; exact Nat.ne_of_lt (blk_lt (g := gb306) (o := .cells #[.int .i64 ((rd_T46 l0 x5_1).f0), .int .i64 ((rd_T46 l0 x5_1).f1), .int .i64 ((rd_T46 l0 x5_1).f2), .slice A305_3 ((rd_T46 l0 x5_1).f3).length c305_3, .int .i64 ((rd_T46 l0 x5_1).f4), .int .i64 ((rd_T46 l0 x5_1).f5)] 46 (0, 0)) (by (with_reducible repeat (first | refine blk_drewN ?_ _ | refine blk_drew ?_ | refine blk_alloc ?_ _)); refine blk_put (cs := #[.int .i64 ((rd_T46 l0 x5_1).f0), .int .i64 ((rd_T46 l0 x5_1).f1), .int .i64 ((rd_T46 l0 x5_1).f2), .slice A305_3 ((rd_T46 l0 x5_1).f3).length c305_3, .int .i64 ((rd_T46 l0 x5_1).f4), .int .i64 0]) ?_ 5 _ rfl; (with_reducible repeat (first | refine blk_drewN ?_ _ | refine blk_drew ?_ | refine blk_alloc ?_ _)); refine blk_put (cs := #[.int .i64 ((rd_T46 l0 x5_1).f0), .int .i64 ((rd_T46 l0 x5_1).f1), .int .i64 ((rd_T46 l0 x5_1).f2), .slice A305_3 ((rd_T46 l0 x5_1).f3).length c305_3, .int .i64 0, .int .i64 0]) ?_ 4 _ rfl; (with_reducible repeat (first | refine blk_drewN ?_ _ | refine blk_drew ?_ | refine blk_alloc ?_ _)); refine blk_put (cs := #[.int .i64 ((rd_T46 l0 x5_1).f0), .int .i64 ((rd_T46 l0 x5_1).f1), .int .i64 ((rd_T46 l0 x5_1).f2), .slice none 0 0, .int .i64 0, .int .i64 0]) ?_ 3 _ rfl; (with_reducible repeat (first | refine blk_drewN ?_ _ | refine blk_drew ?_ | refine blk_alloc ?_ _)); refine blk_put (cs := #[.int .i64 ((rd_T46 l0 x5_1).f0), .int .i64 ((rd_T46 l0 x5_1).f1), .int .i64 0, .slice none 0 0, .int .i64 0, .int .i64 0]) ?_ 2 _ rfl; (with_reducible repeat (first | refine blk_drewN ?_ _ | refine blk_drew ?_ | refine blk_alloc ?_ _)); refine blk_put (cs := #[.int .i64 ((rd_T46 l0 x5_1).f0), .int .i64 0, .int .i64 0, .slice none 0 0, .int .i64 0, .int .i64 0]) ?_ 1 _ rfl; (with_reducible repeat (first | refine blk_drewN ?_ _ | refine blk_drew ?_ | refine blk_alloc ?_ _)); refine blk_put (cs := #[.int .i64 0, .int .i64 0, .int .i64 0, .slice none 0 0, .int .i64 0, .int .i64 0]) ?_ 0 _ rfl; (with_reducible repeat (first | refine blk_drewN ?_ _ | refine blk_drew ?_ | refine blk_alloc ?_ _)); exact BK306.out)) : gb306 ≠ gb308)); have n6_ := Aside0.mk ((by rw [hg]; exact Nat.ne_of_gt (blk_lt (g := gb306) (o := .cells #[.int .i64 ((rd_T46 l0 x5_1).f0), .int .i64 ((rd_T46 l0 x5_1).f1), .int .i64 ((rd_T46 l0 x5_1).f2), .slice A305_3 ((rd_T46 l0 x5_1).f3).length c305_3, .int .i64 ((rd_T46 l0 x5_1).f4), .int .i64 ((rd_T46 l0 x5_1).f5)] 46 (0, 0)) (by (with_reducible repeat (first | refine blk_drewN ?_ _ | refine blk_drew ?_ | refine blk_alloc ?_ _)); refine blk_put (cs := #[.int .i64 ((rd_T46 l0 x5_1).f0), .int .i64 ((rd_T46 l0 x5_1).f1), .int .i64 ((rd_T46 l0 x5_1).f2), .slice A305_3 ((rd_T46 l0 x5_1).f3).length c305_3, .int .i64 ((rd_T46 l0 x5_1).f4), .int .i64 0]) ?_ 5 _ rfl; (with_reducible repeat (first | refine blk_drewN ?_ _ | refine blk_drew ?_ | refine blk_alloc ?_ _)); refine blk_put (cs := #[.int .i64 ((rd_T46 l0 x5_1).f0), .int .i64 ((rd_T46 l0 x5_1).f1), .int .i64 ((rd_T46 l0 x5_1).f2), .slice A305_3 ((rd_T46 l0 x5_1).f3).length c305_3, .int .i64 0, .int .i64 0]) ?_ 4 _ rfl; (with_reducible repeat (first | refine blk_drewN ?_ _ | refine blk_drew ?_ | refine blk_alloc ?_ _)); refine blk_put (cs := #[.int .i64 ((rd_T46 l0 x5_1).f0), .int .i64 ((rd_T46 l0 x5_1).f1), .int .i64 ((rd_T46 l0 x5_1).f2), .slice none 0 0, .int .i64 0, .int .i64 0]) ?_ 3 _ rfl; (with_reducible repeat (first | refine blk_drewN ?_ _ | refine blk_drew ?_ | refine blk_alloc ?_ _)); refine blk_put (cs := #[.int .i64 ((rd_T46 l0 x5_1).f0), .int .i64 ((rd_T46 l0 x5_1).f1), .int .i64 0, .slice none 0 0, .int .i64 0, .int .i64 0]) ?_ 2 _ rfl; (with_reducible repeat (first | refine blk_drewN ?_ _ | refine blk_drew ?_ | refine blk_alloc ?_ _)); refine blk_put (cs := #[.int .i64 ((rd_T46 l0 x5_1).f0), .int .i64 0, .int .i64 0, .slice none 0 0, .int .i64 0, .int .i64 0]) ?_ 1 _ rfl; (with_reducible repeat (first | refine blk_drewN ?_ _ | refine blk_drew ?_ | refine blk_alloc ?_ _)); refine blk_put (cs := #[.int .i64 0, .int .i64 0, .int .i64 0, .slice none 0 0, .int .i64 0, .int .i64 0]) ?_ 0 _ rfl; (with_reducible repeat (first | refine blk_drewN ?_ _ | refine blk_drew ?_ | refine blk_alloc ?_ _)); exact BK306.out)) : gb308 ≠ gb306)); clear BK306; clear HB; have BK306 := n0_; have HB := n1_; have BK308 := n2_; have GW308 := n3_; have GE308 := n4_; have NB306_308 := n5_; have NB308_306 := n6_; clear n0_ n1_ n2_ n3_ n4_ n5_ n6_; clear hb hbox hg; have hnb11 := NB308_306.out; have hnc11 := NB306_308.out; have hcz12_0 : w10.cell? ⟨gb308, 0, none⟩ = some (.int .i64 0) := (blk_cell BK308.out 0).trans rfl; have hcz12_1 : w10.cell? ⟨gb308, 1, none⟩ = some (.int .i64 0) := (blk_cell BK308.out 1).trans rfl; have hcz12_2 : w10.cell? ⟨gb308, 2, none⟩ = some (.int .i64 0) := (blk_cell BK308.out 2).trans rfl; have hcz12_3 : w10.cell? ⟨gb308, 3, none⟩ = some (.slice none 0 0) := (blk_cell BK308.out 3).trans rfl; have hcz12_4 : w10.cell? ⟨gb308, 4, none⟩ = some (.int .i64 0) := (blk_cell BK308.out 4).trans rfl; have hcz12_5 : w10.cell? ⟨gb308, 5, none⟩ = some (.int .i64 0) := (blk_cell BK308.out 5).trans rfl; have hfz12_0 := blk_frozen BK308.out 0; have hfz12_1 := blk_frozen BK308.out 1; have hfz12_2 := blk_frozen BK308.out 2; have hfz12_3 := blk_frozen BK308.out 3; have hfz12_4 := blk_frozen BK308.out 4; have hfz12_5 := blk_frozen BK308.out 5))
       (try simp only [Act.put, List.setIfInBounds_toArray, List.set_cons_zero, List.set_cons_succ])
       go_cut [69] (fun v69 wc => ∃ (kq : Nat) (x69_6 : Bool), v69 = .bool x69_6 ∧ Aside0 (forebayref21_Equal.j1 kq l0 l1 x5_1 x69_6 ((rd_T46 l0 x5_1).f0) ((rd_T46 l0 x5_1).f1) ((rd_T46 l0 x5_1).f2) ((rd_T46 l0 x5_1).f3) ((rd_T46 l0 x5_1).f4) ((rd_T46 l0 x5_1).f5) ((rd_T46 l1 x5_1).f0) ((rd_T46 l1 x5_1).f1) ((rd_T46 l1 x5_1).f2) ((rd_T46 l1 x5_1).f3) ((rd_T46 l1 x5_1).f4) ((rd_T46 l1 x5_1).f5) = some r) ∧ Aside0 (kq ≤ k1) ∧ Aside0 (wc.heap[gb306]? = some (.cells #[.int .i64 ((rd_T46 l0 x5_1).f0), .int .i64 ((rd_T46 l0 x5_1).f1), .int .i64 ((rd_T46 l0 x5_1).f2), (.slice A305_3 ((rd_T46 l0 x5_1).f3).length c305_3), .int .i64 ((rd_T46 l0 x5_1).f4), .int .i64 ((rd_T46 l0 x5_1).f5)] 46 (0, 0))) ∧ Aside0 (wc.heap[gb308]? = some (.cells #[.int .i64 ((rd_T46 l1 x5_1).f0), .int .i64 ((rd_T46 l1 x5_1).f1), .int .i64 ((rd_T46 l1 x5_1).f2), (.slice A307_3 ((rd_T46 l1 x5_1).f3).length c307_3), .int .i64 ((rd_T46 l1 x5_1).f4), .int .i64 ((rd_T46 l1 x5_1).f5)] 46 (0, 0))) ∧ Aside0 (Below w.heap.size w wc))
       case first =>
        have H := HC7.out
        clear HC7
        by_cases c13 : ((rd_T46 l0 x5_1).f0) = ((rd_T46 l1 x5_1).f0)
        ·rw [if_pos c13] at H
         have c13b0 : (((rd_T46 l0 x5_1).f0) == ((rd_T46 l1 x5_1).f0)) = true := beq_iff_eq.mpr c13
         have c13b1 : (((rd_T46 l0 x5_1).f0) != ((rd_T46 l1 x5_1).f0)) = false := bne_eq_false_iff_eq.mpr c13
         clear c13
         (first | rw [c13b0] | (simp only [i64_w, i32_w]; rw [c13b0]) | skip)
         by_cases c14 : ((rd_T46 l0 x5_1).f1) = ((rd_T46 l1 x5_1).f1)
         ·rw [if_pos c14] at H
          have c14b0 : (((rd_T46 l0 x5_1).f1) == ((rd_T46 l1 x5_1).f1)) = true := beq_iff_eq.mpr c14
          have c14b1 : (((rd_T46 l0 x5_1).f1) != ((rd_T46 l1 x5_1).f1)) = false := bne_eq_false_iff_eq.mpr c14
          clear c14
          by_cases c15 : ((rd_T46 l0 x5_1).f2) = ((rd_T46 l1 x5_1).f2)
          ·rw [if_pos c15] at H
           have c15b0 : (((rd_T46 l0 x5_1).f2) == ((rd_T46 l1 x5_1).f2)) = true := beq_iff_eq.mpr c15
           have c15b1 : (((rd_T46 l0 x5_1).f2) != ((rd_T46 l1 x5_1).f2)) = false := bne_eq_false_iff_eq.mpr c15
           clear c15
           by_cases c16 : ((rd_T46 l0 x5_1).f4) = ((rd_T46 l1 x5_1).f4)
           ·rw [if_pos c16] at H
            have c16b0 : (((rd_T46 l0 x5_1).f4) == ((rd_T46 l1 x5_1).f4)) = true := beq_iff_eq.mpr c16
            have c16b1 : (((rd_T46 l0 x5_1).f4) != ((rd_T46 l1 x5_1).f4)) = false := bne_eq_false_iff_eq.mpr c16
            clear c16
            by_cases c17 : ((rd_T46 l0 x5_1).f5) = ((rd_T46 l1 x5_1).f5)
            ·rw [if_pos c17] at H
             have c17b0 : (((rd_T46 l0 x5_1).f5) == ((rd_T46 l1 x5_1).f5)) = true := beq_iff_eq.mpr c17
             have c17b1 : (((rd_T46 l0 x5_1).f5) != ((rd_T46 l1 x5_1).f5)) = false := bne_eq_false_iff_eq.mpr c17
             clear c17
             have H' := Aside0.mk H
             clear H
             have hnb18 := NB306_308.out
             have hnc18 := NB308_306.out
             have hcz19_0 : w10.cell? ⟨gb306, 0, none⟩ = some (.int .i64 ((rd_T46 l0 x5_1).f0)) := (blk_cell BK306.out 0).trans rfl
             have hcz19_1 : w10.cell? ⟨gb306, 1, none⟩ = some (.int .i64 ((rd_T46 l0 x5_1).f1)) := (blk_cell BK306.out 1).trans rfl
             have hcz19_2 : w10.cell? ⟨gb306, 2, none⟩ = some (.int .i64 ((rd_T46 l0 x5_1).f2)) := (blk_cell BK306.out 2).trans rfl
             have hcz19_3 : w10.cell? ⟨gb306, 3, none⟩ = some (.slice A305_3 ((rd_T46 l0 x5_1).f3).length c305_3) := (blk_cell BK306.out 3).trans rfl
             have hcz19_4 : w10.cell? ⟨gb306, 4, none⟩ = some (.int .i64 ((rd_T46 l0 x5_1).f4)) := (blk_cell BK306.out 4).trans rfl
             have hcz19_5 : w10.cell? ⟨gb306, 5, none⟩ = some (.int .i64 ((rd_T46 l0 x5_1).f5)) := (blk_cell BK306.out 5).trans rfl
             have hfz19_0 := blk_frozen BK306.out 0
             have hfz19_1 := blk_frozen BK306.out 1
             have hfz19_2 := blk_frozen BK306.out 2
             have hfz19_3 := blk_frozen BK306.out 3
             have hfz19_4 := blk_frozen BK306.out 4
             have hfz19_5 := blk_frozen BK306.out 5
             have hcz20_0 : w10.cell? ⟨gb308, 0, none⟩ = some (.int .i64 0) := (blk_cell BK308.out 0).trans rfl
             have hcz20_1 : w10.cell? ⟨gb308, 1, none⟩ = some (.int .i64 0) := (blk_cell BK308.out 1).trans rfl
             have hcz20_2 : w10.cell? ⟨gb308, 2, none⟩ = some (.int .i64 0) := (blk_cell BK308.out 2).trans rfl
             have hcz20_3 : w10.cell? ⟨gb308, 3, none⟩ = some (.slice none 0 0) := (blk_cell BK308.out 3).trans rfl
             have hcz20_4 : w10.cell? ⟨gb308, 4, none⟩ = some (.int .i64 0) := (blk_cell BK308.out 4).trans rfl
             have hcz20_5 : w10.cell? ⟨gb308, 5, none⟩ = some (.int .i64 0) := (blk_cell BK308.out 5).trans rfl
             have hfz20_0 := blk_frozen BK308.out 0
             have hfz20_1 := blk_frozen BK308.out 1
             have hfz20_2 := blk_frozen BK308.out 2
             have hfz20_3 := blk_frozen BK308.out 3
             have hfz20_4 := blk_frozen BK308.out 4
             have hfz20_5 := blk_frozen BK308.out 5
             go_wp2
             go_meet
             case rel => exact ⟨_, (((((rd_T46 l0 x5_1).f3).length : Int) != (((rd_T46 l1 x5_1).f3).length : Int))), (by first | rfl | (simp; done) | (simp [*]; done)), H', ⟨by have := HK1.out; first | omega | exact Nat.le_refl _⟩, ⟨by (with_reducible repeat (first | refine blk_drewN ?_ _ | refine blk_drew ?_ | refine blk_alloc ?_ _)); refine blk_far ?_ NB306_308.out _; (with_reducible repeat (first | refine blk_drewN ?_ _ | refine blk_drew ?_ | refine blk_alloc ?_ _)); refine blk_far ?_ NB306_308.out _; (with_reducible repeat (first | refine blk_drewN ?_ _ | refine blk_drew ?_ | refine blk_alloc ?_ _)); refine blk_far ?_ NB306_308.out _; (with_reducible repeat (first | refine blk_drewN ?_ _ | refine blk_drew ?_ | refine blk_alloc ?_ _)); refine blk_far ?_ NB306_308.out _; (with_reducible repeat (first | refine blk_drewN ?_ _ | refine blk_drew ?_ | refine blk_alloc ?_ _)); refine blk_far ?_ NB306_308.out _; (with_reducible repeat (first | refine blk_drewN ?_ _ | refine blk_drew ?_ | refine blk_alloc ?_ _)); refine blk_far ?_ NB306_308.out _; (with_reducible repeat (first | refine blk_drewN ?_ _ | refine blk_drew ?_ | refine blk_alloc ?_ _)); exact BK306.out⟩, ⟨by (with_reducible repeat (first | refine blk_drewN ?_ _ | refine blk_drew ?_ | refine blk_alloc ?_ _)); refine blk_put (cs := #[.int .i64 ((rd_T46 l1 x5_1).f0), .int .i64 ((rd_T46 l1 x5_1).f1), .int .i64 ((rd_T46 l1 x5_1).f2), .slice A307_3 ((rd_T46 l1 x5_1).f3).length c307_3, .int .i64 ((rd_T46 l1 x5_1).f4), .int .i64 0]) ?_ 5 _ rfl; (with_reducible repeat (first | refine blk_drewN ?_ _ | refine blk_drew ?_ | refine blk_alloc ?_ _)); refine blk_put (cs := #[.int .i64 ((rd_T46 l1 x5_1).f0), .int .i64 ((rd_T46 l1 x5_1).f1), .int .i64 ((rd_T46 l1 x5_1).f2), .slice A307_3 ((rd_T46 l1 x5_1).f3).length c307_3, .int .i64 0, .int .i64 0]) ?_ 4 _ rfl; (with_reducible repeat (first | refine blk_drewN ?_ _ | refine blk_drew ?_ | refine blk_alloc ?_ _)); refine blk_put (cs := #[.int .i64 ((rd_T46 l1 x5_1).f0), .int .i64 ((rd_T46 l1 x5_1).f1), .int .i64 ((rd_T46 l1 x5_1).f2), .slice none 0 0, .int .i64 0, .int .i64 0]) ?_ 3 _ rfl; (with_reducible repeat (first | refine blk_drewN ?_ _ | refine blk_drew ?_ | refine blk_alloc ?_ _)); refine blk_put (cs := #[.int .i64 ((rd_T46 l1 x5_1).f0), .int .i64 ((rd_T46 l1 x5_1).f1), .int .i64 0, .slice none 0 0, .int .i64 0, .int .i64 0]) ?_ 2 _ rfl; (with_reducible repeat (first | refine blk_drewN ?_ _ | refine blk_drew ?_ | refine blk_alloc ?_ _)); refine blk_put (cs := #[.int .i64 ((rd_T46 l1 x5_1).f0), .int .i64 0, .int .i64 0, .slice none 0 0, .int .i64 0, .int .i64 0]) ?_ 1 _ rfl; (with_reducible repeat (first | refine blk_drewN ?_ _ | refine blk_drew ?_ | refine blk_alloc ?_ _)); refine blk_put (cs := #[.int .i64 0, .int .i64 0, .int .i64 0, .slice none 0 0, .int .i64 0, .int .i64 0]) ?_ 0 _ rfl; (with_reducible repeat (first | refine blk_drewN ?_ _ | refine blk_drew ?_ | refine blk_alloc ?_ _)); exact BK308.out⟩, ⟨by repeat (first | (with_reducible first | exact HB.out | apply below_alloc | apply pw_below_drewN | apply below_drew1 | refine below_set ?_ GE306.out | refine below_set ?_ GE308.out) | exact HB.out)⟩⟩
            ·rw [if_neg c17] at H
             have c17b0 : (((rd_T46 l0 x5_1).f5) == ((rd_T46 l1 x5_1).f5)) = false := beq_eq_false_iff_ne.mpr c17
             have c17b1 : (((rd_T46 l0 x5_1).f5) != ((rd_T46 l1 x5_1).f5)) = true := bne_iff_ne.mpr c17
             have H' := Aside0.mk H
             clear H
             have hnb21 := NB306_308.out
             have hnc21 := NB308_306.out
             have hcz22_0 : w10.cell? ⟨gb306, 0, none⟩ = some (.int .i64 ((rd_T46 l0 x5_1).f0)) := (blk_cell BK306.out 0).trans rfl
             have hcz22_1 : w10.cell? ⟨gb306, 1, none⟩ = some (.int .i64 ((rd_T46 l0 x5_1).f1)) := (blk_cell BK306.out 1).trans rfl
             have hcz22_2 : w10.cell? ⟨gb306, 2, none⟩ = some (.int .i64 ((rd_T46 l0 x5_1).f2)) := (blk_cell BK306.out 2).trans rfl
             have hcz22_3 : w10.cell? ⟨gb306, 3, none⟩ = some (.slice A305_3 ((rd_T46 l0 x5_1).f3).length c305_3) := (blk_cell BK306.out 3).trans rfl
             have hcz22_4 : w10.cell? ⟨gb306, 4, none⟩ = some (.int .i64 ((rd_T46 l0 x5_1).f4)) := (blk_cell BK306.out 4).trans rfl
             have hcz22_5 : w10.cell? ⟨gb306, 5, none⟩ = some (.int .i64 ((rd_T46 l0 x5_1).f5)) := (blk_cell BK306.out 5).trans rfl
             have hfz22_0 := blk_frozen BK306.out 0
             have hfz22_1 := blk_frozen BK306.out 1
             have hfz22_2 := blk_frozen BK306.out 2
             have hfz22_3 := blk_frozen BK306.out 3
             have hfz22_4 := blk_frozen BK306.out 4
             have hfz22_5 := blk_frozen BK306.out 5
             have hcz23_0 : w10.cell? ⟨gb308, 0, none⟩ = some (.int .i64 0) := (blk_cell BK308.out 0).trans rfl
             have hcz23_1 : w10.cell? ⟨gb308, 1, none⟩ = some (.int .i64 0) := (blk_cell BK308.out 1).trans rfl
             have hcz23_2 : w10.cell? ⟨gb308, 2, none⟩ = some (.int .i64 0) := (blk_cell BK308.out 2).trans rfl
             have hcz23_3 : w10.cell? ⟨gb308, 3, none⟩ = some (.slice none 0 0) := (blk_cell BK308.out 3).trans rfl
             have hcz23_4 : w10.cell? ⟨gb308, 4, none⟩ = some (.int .i64 0) := (blk_cell BK308.out 4).trans rfl
             have hcz23_5 : w10.cell? ⟨gb308, 5, none⟩ = some (.int .i64 0) := (blk_cell BK308.out 5).trans rfl
             have hfz23_0 := blk_frozen BK308.out 0
             have hfz23_1 := blk_frozen BK308.out 1
             have hfz23_2 := blk_frozen BK308.out 2
             have hfz23_3 := blk_frozen BK308.out 3
             have hfz23_4 := blk_frozen BK308.out 4
             have hfz23_5 := blk_frozen BK308.out 5
             go_wp2
             go_meet
             case rel => exact ⟨_, (true), (by first | rfl | (simp; done) | (simp [*]; done)), H', ⟨by have := HK1.out; first | omega | exact Nat.le_refl _⟩, ⟨by (with_reducible repeat (first | refine blk_drewN ?_ _ | refine blk_drew ?_ | refine blk_alloc ?_ _)); refine blk_far ?_ NB306_308.out _; (with_reducible repeat (first | refine blk_drewN ?_ _ | refine blk_drew ?_ | refine blk_alloc ?_ _)); refine blk_far ?_ NB306_308.out _; (with_reducible repeat (first | refine blk_drewN ?_ _ | refine blk_drew ?_ | refine blk_alloc ?_ _)); refine blk_far ?_ NB306_308.out _; (with_reducible repeat (first | refine blk_drewN ?_ _ | refine blk_drew ?_ | refine blk_alloc ?_ _)); refine blk_far ?_ NB306_308.out _; (with_reducible repeat (first | refine blk_drewN ?_ _ | refine blk_drew ?_ | refine blk_alloc ?_ _)); refine blk_far ?_ NB306_308.out _; (with_reducible repeat (first | refine blk_drewN ?_ _ | refine blk_drew ?_ | refine blk_alloc ?_ _)); refine blk_far ?_ NB306_308.out _; (with_reducible repeat (first | refine blk_drewN ?_ _ | refine blk_drew ?_ | refine blk_alloc ?_ _)); exact BK306.out⟩, ⟨by (with_reducible repeat (first | refine blk_drewN ?_ _ | refine blk_drew ?_ | refine blk_alloc ?_ _)); refine blk_put (cs := #[.int .i64 ((rd_T46 l1 x5_1).f0), .int .i64 ((rd_T46 l1 x5_1).f1), .int .i64 ((rd_T46 l1 x5_1).f2), .slice A307_3 ((rd_T46 l1 x5_1).f3).length c307_3, .int .i64 ((rd_T46 l1 x5_1).f4), .int .i64 0]) ?_ 5 _ rfl; (with_reducible repeat (first | refine blk_drewN ?_ _ | refine blk_drew ?_ | refine blk_alloc ?_ _)); refine blk_put (cs := #[.int .i64 ((rd_T46 l1 x5_1).f0), .int .i64 ((rd_T46 l1 x5_1).f1), .int .i64 ((rd_T46 l1 x5_1).f2), .slice A307_3 ((rd_T46 l1 x5_1).f3).length c307_3, .int .i64 0, .int .i64 0]) ?_ 4 _ rfl; (with_reducible repeat (first | refine blk_drewN ?_ _ | refine blk_drew ?_ | refine blk_alloc ?_ _)); refine blk_put (cs := #[.int .i64 ((rd_T46 l1 x5_1).f0), .int .i64 ((rd_T46 l1 x5_1).f1), .int .i64 ((rd_T46 l1 x5_1).f2), .slice none 0 0, .int .i64 0, .int .i64 0]) ?_ 3 _ rfl; (with_reducible repeat (first | refine blk_drewN ?_ _ | refine blk_drew ?_ | refine blk_alloc ?_ _)); refine blk_put (cs := #[.int .i64 ((rd_T46 l1 x5_1).f0), .int .i64 ((rd_T46 l1 x5_1).f1), .int .i64 0, .slice none 0 0, .int .i64 0, .int .i64 0]) ?_ 2 _ rfl; (with_reducible repeat (first | refine blk_drewN ?_ _ | refine blk_drew ?_ | refine blk_alloc ?_ _)); refine blk_put (cs := #[.int .i64 ((rd_T46 l1 x5_1).f0), .int .i64 0, .int .i64 0, .slice none 0 0, .int .i64 0, .int .i64 0]) ?_ 1 _ rfl; (with_reducible repeat (first | refine blk_drewN ?_ _ | refine blk_drew ?_ | refine blk_alloc ?_ _)); refine blk_put (cs := #[.int .i64 0, .int .i64 0, .int .i64 0, .slice none 0 0, .int .i64 0, .int .i64 0]) ?_ 0 _ rfl; (with_reducible repeat (first | refine blk_drewN ?_ _ | refine blk_drew ?_ | refine blk_alloc ?_ _)); exact BK308.out⟩, ⟨by repeat (first | (with_reducible first | exact HB.out | apply below_alloc | apply pw_below_drewN | apply below_drew1 | refine below_set ?_ GE306.out | refine below_set ?_ GE308.out) | exact HB.out)⟩⟩
           ·rw [if_neg c16] at H
            have c16b0 : (((rd_T46 l0 x5_1).f4) == ((rd_T46 l1 x5_1).f4)) = false := beq_eq_false_iff_ne.mpr c16
            have c16b1 : (((rd_T46 l0 x5_1).f4) != ((rd_T46 l1 x5_1).f4)) = true := bne_iff_ne.mpr c16
            have H' := Aside0.mk H
            clear H
            have hnb24 := NB306_308.out
            have hnc24 := NB308_306.out
            have hcz25_0 : w10.cell? ⟨gb306, 0, none⟩ = some (.int .i64 ((rd_T46 l0 x5_1).f0)) := (blk_cell BK306.out 0).trans rfl
            have hcz25_1 : w10.cell? ⟨gb306, 1, none⟩ = some (.int .i64 ((rd_T46 l0 x5_1).f1)) := (blk_cell BK306.out 1).trans rfl
            have hcz25_2 : w10.cell? ⟨gb306, 2, none⟩ = some (.int .i64 ((rd_T46 l0 x5_1).f2)) := (blk_cell BK306.out 2).trans rfl
            have hcz25_3 : w10.cell? ⟨gb306, 3, none⟩ = some (.slice A305_3 ((rd_T46 l0 x5_1).f3).length c305_3) := (blk_cell BK306.out 3).trans rfl
            have hcz25_4 : w10.cell? ⟨gb306, 4, none⟩ = some (.int .i64 ((rd_T46 l0 x5_1).f4)) := (blk_cell BK306.out 4).trans rfl
            have hcz25_5 : w10.cell? ⟨gb306, 5, none⟩ = some (.int .i64 ((rd_T46 l0 x5_1).f5)) := (blk_cell BK306.out 5).trans rfl
            have hfz25_0 := blk_frozen BK306.out 0
            have hfz25_1 := blk_frozen BK306.out 1
            have hfz25_2 := blk_frozen BK306.out 2
            have hfz25_3 := blk_frozen BK306.out 3
            have hfz25_4 := blk_frozen BK306.out 4
            have hfz25_5 := blk_frozen BK306.out 5
            have hcz26_0 : w10.cell? ⟨gb308, 0, none⟩ = some (.int .i64 0) := (blk_cell BK308.out 0).trans rfl
            have hcz26_1 : w10.cell? ⟨gb308, 1, none⟩ = some (.int .i64 0) := (blk_cell BK308.out 1).trans rfl
            have hcz26_2 : w10.cell? ⟨gb308, 2, none⟩ = some (.int .i64 0) := (blk_cell BK308.out 2).trans rfl
            have hcz26_3 : w10.cell? ⟨gb308, 3, none⟩ = some (.slice none 0 0) := (blk_cell BK308.out 3).trans rfl
            have hcz26_4 : w10.cell? ⟨gb308, 4, none⟩ = some (.int .i64 0) := (blk_cell BK308.out 4).trans rfl
            have hcz26_5 : w10.cell? ⟨gb308, 5, none⟩ = some (.int .i64 0) := (blk_cell BK308.out 5).trans rfl
            have hfz26_0 := blk_frozen BK308.out 0
            have hfz26_1 := blk_frozen BK308.out 1
            have hfz26_2 := blk_frozen BK308.out 2
            have hfz26_3 := blk_frozen BK308.out 3
            have hfz26_4 := blk_frozen BK308.out 4
            have hfz26_5 := blk_frozen BK308.out 5
            go_wp2
            go_meet
            case rel => exact ⟨_, (true), (by first | rfl | (simp; done) | (simp [*]; done)), H', ⟨by have := HK1.out; first | omega | exact Nat.le_refl _⟩, ⟨by (with_reducible repeat (first | refine blk_drewN ?_ _ | refine blk_drew ?_ | refine blk_alloc ?_ _)); refine blk_far ?_ NB306_308.out _; (with_reducible repeat (first | refine blk_drewN ?_ _ | refine blk_drew ?_ | refine blk_alloc ?_ _)); refine blk_far ?_ NB306_308.out _; (with_reducible repeat (first | refine blk_drewN ?_ _ | refine blk_drew ?_ | refine blk_alloc ?_ _)); refine blk_far ?_ NB306_308.out _; (with_reducible repeat (first | refine blk_drewN ?_ _ | refine blk_drew ?_ | refine blk_alloc ?_ _)); refine blk_far ?_ NB306_308.out _; (with_reducible repeat (first | refine blk_drewN ?_ _ | refine blk_drew ?_ | refine blk_alloc ?_ _)); refine blk_far ?_ NB306_308.out _; (with_reducible repeat (first | refine blk_drewN ?_ _ | refine blk_drew ?_ | refine blk_alloc ?_ _)); refine blk_far ?_ NB306_308.out _; (with_reducible repeat (first | refine blk_drewN ?_ _ | refine blk_drew ?_ | refine blk_alloc ?_ _)); exact BK306.out⟩, ⟨by (with_reducible repeat (first | refine blk_drewN ?_ _ | refine blk_drew ?_ | refine blk_alloc ?_ _)); refine blk_put (cs := #[.int .i64 ((rd_T46 l1 x5_1).f0), .int .i64 ((rd_T46 l1 x5_1).f1), .int .i64 ((rd_T46 l1 x5_1).f2), .slice A307_3 ((rd_T46 l1 x5_1).f3).length c307_3, .int .i64 ((rd_T46 l1 x5_1).f4), .int .i64 0]) ?_ 5 _ rfl; (with_reducible repeat (first | refine blk_drewN ?_ _ | refine blk_drew ?_ | refine blk_alloc ?_ _)); refine blk_put (cs := #[.int .i64 ((rd_T46 l1 x5_1).f0), .int .i64 ((rd_T46 l1 x5_1).f1), .int .i64 ((rd_T46 l1 x5_1).f2), .slice A307_3 ((rd_T46 l1 x5_1).f3).length c307_3, .int .i64 0, .int .i64 0]) ?_ 4 _ rfl; (with_reducible repeat (first | refine blk_drewN ?_ _ | refine blk_drew ?_ | refine blk_alloc ?_ _)); refine blk_put (cs := #[.int .i64 ((rd_T46 l1 x5_1).f0), .int .i64 ((rd_T46 l1 x5_1).f1), .int .i64 ((rd_T46 l1 x5_1).f2), .slice none 0 0, .int .i64 0, .int .i64 0]) ?_ 3 _ rfl; (with_reducible repeat (first | refine blk_drewN ?_ _ | refine blk_drew ?_ | refine blk_alloc ?_ _)); refine blk_put (cs := #[.int .i64 ((rd_T46 l1 x5_1).f0), .int .i64 ((rd_T46 l1 x5_1).f1), .int .i64 0, .slice none 0 0, .int .i64 0, .int .i64 0]) ?_ 2 _ rfl; (with_reducible repeat (first | refine blk_drewN ?_ _ | refine blk_drew ?_ | refine blk_alloc ?_ _)); refine blk_put (cs := #[.int .i64 ((rd_T46 l1 x5_1).f0), .int .i64 0, .int .i64 0, .slice none 0 0, .int .i64 0, .int .i64 0]) ?_ 1 _ rfl; (with_reducible repeat (first | refine blk_drewN ?_ _ | refine blk_drew ?_ | refine blk_alloc ?_ _)); refine blk_put (cs := #[.int .i64 0, .int .i64 0, .int .i64 0, .slice none 0 0, .int .i64 0, .int .i64 0]) ?_ 0 _ rfl; (with_reducible repeat (first | refine blk_drewN ?_ _ | refine blk_drew ?_ | refine blk_alloc ?_ _)); exact BK308.out⟩, ⟨by repeat (first | (with_reducible first | exact HB.out | apply below_alloc | apply pw_below_drewN | apply below_drew1 | refine below_set ?_ GE306.out | refine below_set ?_ GE308.out) | exact HB.out)⟩⟩
          ·rw [if_neg c15] at H
           have c15b0 : (((rd_T46 l0 x5_1).f2) == ((rd_T46 l1 x5_1).f2)) = false := beq_eq_false_iff_ne.mpr c15
           have c15b1 : (((rd_T46 l0 x5_1).f2) != ((rd_T46 l1 x5_1).f2)) = true := bne_iff_ne.mpr c15
           have H' := Aside0.mk H
           clear H
           have hnb27 := NB306_308.out
           have hnc27 := NB308_306.out
           have hcz28_0 : w10.cell? ⟨gb306, 0, none⟩ = some (.int .i64 ((rd_T46 l0 x5_1).f0)) := (blk_cell BK306.out 0).trans rfl
           have hcz28_1 : w10.cell? ⟨gb306, 1, none⟩ = some (.int .i64 ((rd_T46 l0 x5_1).f1)) := (blk_cell BK306.out 1).trans rfl
           have hcz28_2 : w10.cell? ⟨gb306, 2, none⟩ = some (.int .i64 ((rd_T46 l0 x5_1).f2)) := (blk_cell BK306.out 2).trans rfl
           have hcz28_3 : w10.cell? ⟨gb306, 3, none⟩ = some (.slice A305_3 ((rd_T46 l0 x5_1).f3).length c305_3) := (blk_cell BK306.out 3).trans rfl
           have hcz28_4 : w10.cell? ⟨gb306, 4, none⟩ = some (.int .i64 ((rd_T46 l0 x5_1).f4)) := (blk_cell BK306.out 4).trans rfl
           have hcz28_5 : w10.cell? ⟨gb306, 5, none⟩ = some (.int .i64 ((rd_T46 l0 x5_1).f5)) := (blk_cell BK306.out 5).trans rfl
           have hfz28_0 := blk_frozen BK306.out 0
           have hfz28_1 := blk_frozen BK306.out 1
           have hfz28_2 := blk_frozen BK306.out 2
           have hfz28_3 := blk_frozen BK306.out 3
           have hfz28_4 := blk_frozen BK306.out 4
           have hfz28_5 := blk_frozen BK306.out 5
           have hcz29_0 : w10.cell? ⟨gb308, 0, none⟩ = some (.int .i64 0) := (blk_cell BK308.out 0).trans rfl
           have hcz29_1 : w10.cell? ⟨gb308, 1, none⟩ = some (.int .i64 0) := (blk_cell BK308.out 1).trans rfl
           have hcz29_2 : w10.cell? ⟨gb308, 2, none⟩ = some (.int .i64 0) := (blk_cell BK308.out 2).trans rfl
           have hcz29_3 : w10.cell? ⟨gb308, 3, none⟩ = some (.slice none 0 0) := (blk_cell BK308.out 3).trans rfl
           have hcz29_4 : w10.cell? ⟨gb308, 4, none⟩ = some (.int .i64 0) := (blk_cell BK308.out 4).trans rfl
           have hcz29_5 : w10.cell? ⟨gb308, 5, none⟩ = some (.int .i64 0) := (blk_cell BK308.out 5).trans rfl
           have hfz29_0 := blk_frozen BK308.out 0
           have hfz29_1 := blk_frozen BK308.out 1
           have hfz29_2 := blk_frozen BK308.out 2
           have hfz29_3 := blk_frozen BK308.out 3
           have hfz29_4 := blk_frozen BK308.out 4
           have hfz29_5 := blk_frozen BK308.out 5
           go_wp2
           go_meet
           case rel => exact ⟨_, (true), (by first | rfl | (simp; done) | (simp [*]; done)), H', ⟨by have := HK1.out; first | omega | exact Nat.le_refl _⟩, ⟨by (with_reducible repeat (first | refine blk_drewN ?_ _ | refine blk_drew ?_ | refine blk_alloc ?_ _)); refine blk_far ?_ NB306_308.out _; (with_reducible repeat (first | refine blk_drewN ?_ _ | refine blk_drew ?_ | refine blk_alloc ?_ _)); refine blk_far ?_ NB306_308.out _; (with_reducible repeat (first | refine blk_drewN ?_ _ | refine blk_drew ?_ | refine blk_alloc ?_ _)); refine blk_far ?_ NB306_308.out _; (with_reducible repeat (first | refine blk_drewN ?_ _ | refine blk_drew ?_ | refine blk_alloc ?_ _)); refine blk_far ?_ NB306_308.out _; (with_reducible repeat (first | refine blk_drewN ?_ _ | refine blk_drew ?_ | refine blk_alloc ?_ _)); refine blk_far ?_ NB306_308.out _; (with_reducible repeat (first | refine blk_drewN ?_ _ | refine blk_drew ?_ | refine blk_alloc ?_ _)); refine blk_far ?_ NB306_308.out _; (with_reducible repeat (first | refine blk_drewN ?_ _ | refine blk_drew ?_ | refine blk_alloc ?_ _)); exact BK306.out⟩, ⟨by (with_reducible repeat (first | refine blk_drewN ?_ _ | refine blk_drew ?_ | refine blk_alloc ?_ _)); refine blk_put (cs := #[.int .i64 ((rd_T46 l1 x5_1).f0), .int .i64 ((rd_T46 l1 x5_1).f1), .int .i64 ((rd_T46 l1 x5_1).f2), .slice A307_3 ((rd_T46 l1 x5_1).f3).length c307_3, .int .i64 ((rd_T46 l1 x5_1).f4), .int .i64 0]) ?_ 5 _ rfl; (with_reducible repeat (first | refine blk_drewN ?_ _ | refine blk_drew ?_ | refine blk_alloc ?_ _)); refine blk_put (cs := #[.int .i64 ((rd_T46 l1 x5_1).f0), .int .i64 ((rd_T46 l1 x5_1).f1), .int .i64 ((rd_T46 l1 x5_1).f2), .slice A307_3 ((rd_T46 l1 x5_1).f3).length c307_3, .int .i64 0, .int .i64 0]) ?_ 4 _ rfl; (with_reducible repeat (first | refine blk_drewN ?_ _ | refine blk_drew ?_ | refine blk_alloc ?_ _)); refine blk_put (cs := #[.int .i64 ((rd_T46 l1 x5_1).f0), .int .i64 ((rd_T46 l1 x5_1).f1), .int .i64 ((rd_T46 l1 x5_1).f2), .slice none 0 0, .int .i64 0, .int .i64 0]) ?_ 3 _ rfl; (with_reducible repeat (first | refine blk_drewN ?_ _ | refine blk_drew ?_ | refine blk_alloc ?_ _)); refine blk_put (cs := #[.int .i64 ((rd_T46 l1 x5_1).f0), .int .i64 ((rd_T46 l1 x5_1).f1), .int .i64 0, .slice none 0 0, .int .i64 0, .int .i64 0]) ?_ 2 _ rfl; (with_reducible repeat (first | refine blk_drewN ?_ _ | refine blk_drew ?_ | refine blk_alloc ?_ _)); refine blk_put (cs := #[.int .i64 ((rd_T46 l1 x5_1).f0), .int .i64 0, .int .i64 0, .slice none 0 0, .int .i64 0, .int .i64 0]) ?_ 1 _ rfl; (with_reducible repeat (first | refine blk_drewN ?_ _ | refine blk_drew ?_ | refine blk_alloc ?_ _)); refine blk_put (cs := #[.int .i64 0, .int .i64 0, .int .i64 0, .slice none 0 0, .int .i64 0, .int .i64 0]) ?_ 0 _ rfl; (with_reducible repeat (first | refine blk_drewN ?_ _ | refine blk_drew ?_ | refine blk_alloc ?_ _)); exact BK308.out⟩, ⟨by repeat (first | (with_reducible first | exact HB.out | apply below_alloc | apply pw_below_drewN | apply below_drew1 | refine below_set ?_ GE306.out | refine below_set ?_ GE308.out) | exact HB.out)⟩⟩
         ·rw [if_neg c14] at H
          have c14b0 : (((rd_T46 l0 x5_1).f1) == ((rd_T46 l1 x5_1).f1)) = false := beq_eq_false_iff_ne.mpr c14
          have c14b1 : (((rd_T46 l0 x5_1).f1) != ((rd_T46 l1 x5_1).f1)) = true := bne_iff_ne.mpr c14
          have H' := Aside0.mk H
          clear H
          have hnb30 := NB306_308.out
          have hnc30 := NB308_306.out
          have hcz31_0 : w10.cell? ⟨gb306, 0, none⟩ = some (.int .i64 ((rd_T46 l0 x5_1).f0)) := (blk_cell BK306.out 0).trans rfl
          have hcz31_1 : w10.cell? ⟨gb306, 1, none⟩ = some (.int .i64 ((rd_T46 l0 x5_1).f1)) := (blk_cell BK306.out 1).trans rfl
          have hcz31_2 : w10.cell? ⟨gb306, 2, none⟩ = some (.int .i64 ((rd_T46 l0 x5_1).f2)) := (blk_cell BK306.out 2).trans rfl
          have hcz31_3 : w10.cell? ⟨gb306, 3, none⟩ = some (.slice A305_3 ((rd_T46 l0 x5_1).f3).length c305_3) := (blk_cell BK306.out 3).trans rfl
          have hcz31_4 : w10.cell? ⟨gb306, 4, none⟩ = some (.int .i64 ((rd_T46 l0 x5_1).f4)) := (blk_cell BK306.out 4).trans rfl
          have hcz31_5 : w10.cell? ⟨gb306, 5, none⟩ = some (.int .i64 ((rd_T46 l0 x5_1).f5)) := (blk_cell BK306.out 5).trans rfl
          have hfz31_0 := blk_frozen BK306.out 0
          have hfz31_1 := blk_frozen BK306.out 1
          have hfz31_2 := blk_frozen BK306.out 2
          have hfz31_3 := blk_frozen BK306.out 3
          have hfz31_4 := blk_frozen BK306.out 4
          have hfz31_5 := blk_frozen BK306.out 5
          have hcz32_0 : w10.cell? ⟨gb308, 0, none⟩ = some (.int .i64 0) := (blk_cell BK308.out 0).trans rfl
          have hcz32_1 : w10.cell? ⟨gb308, 1, none⟩ = some (.int .i64 0) := (blk_cell BK308.out 1).trans rfl
          have hcz32_2 : w10.cell? ⟨gb308, 2, none⟩ = some (.int .i64 0) := (blk_cell BK308.out 2).trans rfl
          have hcz32_3 : w10.cell? ⟨gb308, 3, none⟩ = some (.slice none 0 0) := (blk_cell BK308.out 3).trans rfl
          have hcz32_4 : w10.cell? ⟨gb308, 4, none⟩ = some (.int .i64 0) := (blk_cell BK308.out 4).trans rfl
          have hcz32_5 : w10.cell? ⟨gb308, 5, none⟩ = some (.int .i64 0) := (blk_cell BK308.out 5).trans rfl
          have hfz32_0 := blk_frozen BK308.out 0
          have hfz32_1 := blk_frozen BK308.out 1
          have hfz32_2 := blk_frozen BK308.out 2
          have hfz32_3 := blk_frozen BK308.out 3
          have hfz32_4 := blk_frozen BK308.out 4
          have hfz32_5 := blk_frozen BK308.out 5
          go_wp2
          go_meet
          case rel => exact ⟨_, (true), (by first | rfl | (simp; done) | (simp [*]; done)), H', ⟨by have := HK1.out; first | omega | exact Nat.le_refl _⟩, ⟨by (with_reducible repeat (first | refine blk_drewN ?_ _ | refine blk_drew ?_ | refine blk_alloc ?_ _)); refine blk_far ?_ NB306_308.out _; (with_reducible repeat (first | refine blk_drewN ?_ _ | refine blk_drew ?_ | refine blk_alloc ?_ _)); refine blk_far ?_ NB306_308.out _; (with_reducible repeat (first | refine blk_drewN ?_ _ | refine blk_drew ?_ | refine blk_alloc ?_ _)); refine blk_far ?_ NB306_308.out _; (with_reducible repeat (first | refine blk_drewN ?_ _ | refine blk_drew ?_ | refine blk_alloc ?_ _)); refine blk_far ?_ NB306_308.out _; (with_reducible repeat (first | refine blk_drewN ?_ _ | refine blk_drew ?_ | refine blk_alloc ?_ _)); refine blk_far ?_ NB306_308.out _; (with_reducible repeat (first | refine blk_drewN ?_ _ | refine blk_drew ?_ | refine blk_alloc ?_ _)); refine blk_far ?_ NB306_308.out _; (with_reducible repeat (first | refine blk_drewN ?_ _ | refine blk_drew ?_ | refine blk_alloc ?_ _)); exact BK306.out⟩, ⟨by (with_reducible repeat (first | refine blk_drewN ?_ _ | refine blk_drew ?_ | refine blk_alloc ?_ _)); refine blk_put (cs := #[.int .i64 ((rd_T46 l1 x5_1).f0), .int .i64 ((rd_T46 l1 x5_1).f1), .int .i64 ((rd_T46 l1 x5_1).f2), .slice A307_3 ((rd_T46 l1 x5_1).f3).length c307_3, .int .i64 ((rd_T46 l1 x5_1).f4), .int .i64 0]) ?_ 5 _ rfl; (with_reducible repeat (first | refine blk_drewN ?_ _ | refine blk_drew ?_ | refine blk_alloc ?_ _)); refine blk_put (cs := #[.int .i64 ((rd_T46 l1 x5_1).f0), .int .i64 ((rd_T46 l1 x5_1).f1), .int .i64 ((rd_T46 l1 x5_1).f2), .slice A307_3 ((rd_T46 l1 x5_1).f3).length c307_3, .int .i64 0, .int .i64 0]) ?_ 4 _ rfl; (with_reducible repeat (first | refine blk_drewN ?_ _ | refine blk_drew ?_ | refine blk_alloc ?_ _)); refine blk_put (cs := #[.int .i64 ((rd_T46 l1 x5_1).f0), .int .i64 ((rd_T46 l1 x5_1).f1), .int .i64 ((rd_T46 l1 x5_1).f2), .slice none 0 0, .int .i64 0, .int .i64 0]) ?_ 3 _ rfl; (with_reducible repeat (first | refine blk_drewN ?_ _ | refine blk_drew ?_ | refine blk_alloc ?_ _)); refine blk_put (cs := #[.int .i64 ((rd_T46 l1 x5_1).f0), .int .i64 ((rd_T46 l1 x5_1).f1), .int .i64 0, .slice none 0 0, .int .i64 0, .int .i64 0]) ?_ 2 _ rfl; (with_reducible repeat (first | refine blk_drewN ?_ _ | refine blk_drew ?_ | refine blk_alloc ?_ _)); refine blk_put (cs := #[.int .i64 ((rd_T46 l1 x5_1).f0), .int .i64 0, .int .i64 0, .slice none 0 0, .int .i64 0, .int .i64 0]) ?_ 1 _ rfl; (with_reducible repeat (first | refine blk_drewN ?_ _ | refine blk_drew ?_ | refine blk_alloc ?_ _)); refine blk_put (cs := #[.int .i64 0, .int .i64 0, .int .i64 0, .slice none 0 0, .int .i64 0, .int .i64 0]) ?_ 0 _ rfl; (with_reducible repeat (first | refine blk_drewN ?_ _ | refine blk_drew ?_ | refine blk_alloc ?_ _)); exact BK308.out⟩, ⟨by repeat (first | (with_reducible first | exact HB.out | apply below_alloc | apply pw_below_drewN | apply below_drew1 | refine below_set ?_ GE306.out | refine below_set ?_ GE308.out) | exact HB.out)⟩⟩
        ·rw [if_neg c13] at H
         have c13b0 : (((rd_T46 l0 x5_1).f0) == ((rd_T46 l1 x5_1).f0)) = false := beq_eq_false_iff_ne.mpr c13
         have c13b1 : (((rd_T46 l0 x5_1).f0) != ((rd_T46 l1 x5_1).f0)) = true := bne_iff_ne.mpr c13
         (first | rw [c13b0] | (simp only [i64_w, i32_w]; rw [c13b0]) | skip)
         have H' := Aside0.mk H
         clear H
         have hnb33 := NB306_308.out
         have hnc33 := NB308_306.out
         have hcz34_0 : w10.cell? ⟨gb306, 0, none⟩ = some (.int .i64 ((rd_T46 l0 x5_1).f0)) := (blk_cell BK306.out 0).trans rfl
         have hcz34_1 : w10.cell? ⟨gb306, 1, none⟩ = some (.int .i64 ((rd_T46 l0 x5_1).f1)) := (blk_cell BK306.out 1).trans rfl
         have hcz34_2 : w10.cell? ⟨gb306, 2, none⟩ = some (.int .i64 ((rd_T46 l0 x5_1).f2)) := (blk_cell BK306.out 2).trans rfl
         have hcz34_3 : w10.cell? ⟨gb306, 3, none⟩ = some (.slice A305_3 ((rd_T46 l0 x5_1).f3).length c305_3) := (blk_cell BK306.out 3).trans rfl
         have hcz34_4 : w10.cell? ⟨gb306, 4, none⟩ = some (.int .i64 ((rd_T46 l0 x5_1).f4)) := (blk_cell BK306.out 4).trans rfl
         have hcz34_5 : w10.cell? ⟨gb306, 5, none⟩ = some (.int .i64 ((rd_T46 l0 x5_1).f5)) := (blk_cell BK306.out 5).trans rfl
         have hfz34_0 := blk_frozen BK306.out 0
         have hfz34_1 := blk_frozen BK306.out 1
         have hfz34_2 := blk_frozen BK306.out 2
         have hfz34_3 := blk_frozen BK306.out 3
         have hfz34_4 := blk_frozen BK306.out 4
         have hfz34_5 := blk_frozen BK306.out 5
         have hcz35_0 : w10.cell? ⟨gb308, 0, none⟩ = some (.int .i64 0) := (blk_cell BK308.out 0).trans rfl
         have hcz35_1 : w10.cell? ⟨gb308, 1, none⟩ = some (.int .i64 0) := (blk_cell BK308.out 1).trans rfl
         have hcz35_2 : w10.cell? ⟨gb308, 2, none⟩ = some (.int .i64 0) := (blk_cell BK308.out 2).trans rfl
         have hcz35_3 : w10.cell? ⟨gb308, 3, none⟩ = some (.slice none 0 0) := (blk_cell BK308.out 3).trans rfl
         have hcz35_4 : w10.cell? ⟨gb308, 4, none⟩ = some (.int .i64 0) := (blk_cell BK308.out 4).trans rfl
         have hcz35_5 : w10.cell? ⟨gb308, 5, none⟩ = some (.int .i64 0) := (blk_cell BK308.out 5).trans rfl
         have hfz35_0 := blk_frozen BK308.out 0
         have hfz35_1 := blk_frozen BK308.out 1
         have hfz35_2 := blk_frozen BK308.out 2
         have hfz35_3 := blk_frozen BK308.out 3
         have hfz35_4 := blk_frozen BK308.out 4
         have hfz35_5 := blk_frozen BK308.out 5
         go_wp2
         go_meet
         case rel => exact ⟨_, (true), (by first | rfl | (simp; done) | (simp [*]; done)), H', ⟨by have := HK1.out; first | omega | exact Nat.le_refl _⟩, ⟨by (with_reducible repeat (first | refine blk_drewN ?_ _ | refine blk_drew ?_ | refine blk_alloc ?_ _)); refine blk_far ?_ NB306_308.out _; (with_reducible repeat (first | refine blk_drewN ?_ _ | refine blk_drew ?_ | refine blk_alloc ?_ _)); refine blk_far ?_ NB306_308.out _; (with_reducible repeat (first | refine blk_drewN ?_ _ | refine blk_drew ?_ | refine blk_alloc ?_ _)); refine blk_far ?_ NB306_308.out _; (with_reducible repeat (first | refine blk_drewN ?_ _ | refine blk_drew ?_ | refine blk_alloc ?_ _)); refine blk_far ?_ NB306_308.out _; (with_reducible repeat (first | refine blk_drewN ?_ _ | refine blk_drew ?_ | refine blk_alloc ?_ _)); refine blk_far ?_ NB306_308.out _; (with_reducible repeat (first | refine blk_drewN ?_ _ | refine blk_drew ?_ | refine blk_alloc ?_ _)); refine blk_far ?_ NB306_308.out _; (with_reducible repeat (first | refine blk_drewN ?_ _ | refine blk_drew ?_ | refine blk_alloc ?_ _)); exact BK306.out⟩, ⟨by (with_reducible repeat (first | refine blk_drewN ?_ _ | refine blk_drew ?_ | refine blk_alloc ?_ _)); refine blk_put (cs := #[.int .i64 ((rd_T46 l1 x5_1).f0), .int .i64 ((rd_T46 l1 x5_1).f1), .int .i64 ((rd_T46 l1 x5_1).f2), .slice A307_3 ((rd_T46 l1 x5_1).f3).length c307_3, .int .i64 ((rd_T46 l1 x5_1).f4), .int .i64 0]) ?_ 5 _ rfl; (with_reducible repeat (first | refine blk_drewN ?_ _ | refine blk_drew ?_ | refine blk_alloc ?_ _)); refine blk_put (cs := #[.int .i64 ((rd_T46 l1 x5_1).f0), .int .i64 ((rd_T46 l1 x5_1).f1), .int .i64 ((rd_T46 l1 x5_1).f2), .slice A307_3 ((rd_T46 l1 x5_1).f3).length c307_3, .int .i64 0, .int .i64 0]) ?_ 4 _ rfl; (with_reducible repeat (first | refine blk_drewN ?_ _ | refine blk_drew ?_ | refine blk_alloc ?_ _)); refine blk_put (cs := #[.int .i64 ((rd_T46 l1 x5_1).f0), .int .i64 ((rd_T46 l1 x5_1).f1), .int .i64 ((rd_T46 l1 x5_1).f2), .slice none 0 0, .int .i64 0, .int .i64 0]) ?_ 3 _ rfl; (with_reducible repeat (first | refine blk_drewN ?_ _ | refine blk_drew ?_ | refine blk_alloc ?_ _)); refine blk_put (cs := #[.int .i64 ((rd_T46 l1 x5_1).f0), .int .i64 ((rd_T46 l1 x5_1).f1), .int .i64 0, .slice none 0 0, .int .i64 0, .int .i64 0]) ?_ 2 _ rfl; (with_reducible repeat (first | refine blk_drewN ?_ _ | refine blk_drew ?_ | refine blk_alloc ?_ _)); refine blk_put (cs := #[.int .i64 ((rd_T46 l1 x5_1).f0), .int .i64 0, .int .i64 0, .slice none 0 0, .int .i64 0, .int .i64 0]) ?_ 1 _ rfl; (with_reducible repeat (first | refine blk_drewN ?_ _ | refine blk_drew ?_ | refine blk_alloc ?_ _)); refine blk_put (cs := #[.int .i64 0, .int .i64 0, .int .i64 0, .slice none 0 0, .int .i64 0, .int .i64 0]) ?_ 0 _ rfl; (with_reducible repeat (first | refine blk_drewN ?_ _ | refine blk_drew ?_ | refine blk_alloc ?_ _)); exact BK308.out⟩, ⟨by repeat (first | (with_reducible first | exact HB.out | apply below_alloc | apply pw_below_drewN | apply below_drew1 | refine below_set ?_ GE306.out | refine below_set ?_ GE308.out) | exact HB.out)⟩⟩
       case rest =>
        clear HC7
        try clear c1
        try clear c2
        try clear p2
        try clear c3
        try clear c3b0
        try clear c3b1
        try clear c3b2
        try clear p3
        try clear q3
        try clear hx3
        try clear c4
        try clear c4b0
        try clear c5
        try clear c5b0
        try clear c6
        try clear c6b0
        try clear c11
        try clear c13
        try clear c13b0
        try clear c13b1
        try clear c14
        try clear c14b0
        try clear c14b1
        try clear c15
        try clear c15b0
        try clear c15b1
        try clear c16
        try clear c16b0
        try clear c16b1
        try clear c17
        try clear c17b0
        try clear c17b1
        try clear c18
        try clear c21
        try clear c24
        try clear c25
        try clear c27
        try clear c30
        try clear p30
        try clear q30
        try clear hx30
        try clear c33
        try clear hcz12_0
        try clear hcz12_1
        try clear hcz12_2
        try clear hcz12_3
        try clear hcz12_4
        try clear hcz12_5
        try clear hcz19_0
        try clear hcz19_1
        try clear hcz19_2
        try clear hcz19_3
        try clear hcz19_4
        try clear hcz19_5
        try clear hcz20_0
        try clear hcz20_1
        try clear hcz20_2
        try clear hcz20_3
        try clear hcz20_4
        try clear hcz20_5
        try clear hcz22_0
        try clear hcz22_1
        try clear hcz22_2
        try clear hcz22_3
        try clear hcz22_4
        try clear hcz22_5
        try clear hcz23_0
        try clear hcz23_1
        try clear hcz23_2
        try clear hcz23_3
        try clear hcz23_4
        try clear hcz23_5
        try clear hcz25_0
        try clear hcz25_1
        try clear hcz25_2
        try clear hcz25_3
        try clear hcz25_4
        try clear hcz25_5
        try clear hcz26_0
        try clear hcz26_1
        try clear hcz26_2
        try clear hcz26_3
        try clear hcz26_4
        try clear hcz26_5
        try clear hcz28_0
        try clear hcz28_1
        try clear hcz28_2
        try clear hcz28_3
        try clear hcz28_4
        try clear hcz28_5
        try clear hcz29_0
        try clear hcz29_1
        try clear hcz29_2
        try clear hcz29_3
        try clear hcz29_4
        try clear hcz29_5
        try clear hcz31_0
        try clear hcz31_1
        try clear hcz31_2
        try clear hcz31_3
        try clear hcz31_4
        try clear hcz31_5
        try clear hcz32_0
        try clear hcz32_1
        try clear hcz32_2
        try clear hcz32_3
        try clear hcz32_4
        try clear hcz32_5
        try clear hcz34_0
        try clear hcz34_1
        try clear hcz34_2
        try clear hcz34_3
        try clear hcz34_4
        try clear hcz34_5
        try clear hcz35_0
        try clear hcz35_1
        try clear hcz35_2
        try clear hcz35_3
        try clear hcz35_4
        try clear hcz35_5
        try clear hcz9_0
        try clear hcz9_1
        try clear hcz9_2
        try clear hcz9_3
        try clear hcz9_4
        try clear hcz9_5
        try clear hfz12_0
        try clear hfz12_1
        try clear hfz12_2
        try clear hfz12_3
        try clear hfz12_4
        try clear hfz12_5
        try clear hfz19_0
        try clear hfz19_1
        try clear hfz19_2
        try clear hfz19_3
        try clear hfz19_4
        try clear hfz19_5
        try clear hfz20_0
        try clear hfz20_1
        try clear hfz20_2
        try clear hfz20_3
        try clear hfz20_4
        try clear hfz20_5
        try clear hfz22_0
        try clear hfz22_1
        try clear hfz22_2
        try clear hfz22_3
        try clear hfz22_4
        try clear hfz22_5
        try clear hfz23_0
        try clear hfz23_1
        try clear hfz23_2
        try clear hfz23_3
        try clear hfz23_4
        try clear hfz23_5
        try clear hfz25_0
        try clear hfz25_1
        try clear hfz25_2
        try clear hfz25_3
        try clear hfz25_4
        try clear hfz25_5
        try clear hfz26_0
        try clear hfz26_1
        try clear hfz26_2
        try clear hfz26_3
        try clear hfz26_4
        try clear hfz26_5
        try clear hfz28_0
        try clear hfz28_1
        try clear hfz28_2
        try clear hfz28_3
        try clear hfz28_4
        try clear hfz28_5
        try clear hfz29_0
        try clear hfz29_1
        try clear hfz29_2
        try clear hfz29_3
        try clear hfz29_4
        try clear hfz29_5
        try clear hfz31_0
        try clear hfz31_1
        try clear hfz31_2
        try clear hfz31_3
        try clear hfz31_4
        try clear hfz31_5
        try clear hfz32_0
        try clear hfz32_1
        try clear hfz32_2
        try clear hfz32_3
        try clear hfz32_4
        try clear hfz32_5
        try clear hfz34_0
        try clear hfz34_1
        try clear hfz34_2
        try clear hfz34_3
        try clear hfz34_4
        try clear hfz34_5
        try clear hfz35_0
        try clear hfz35_1
        try clear hfz35_2
        try clear hfz35_3
        try clear hfz35_4
        try clear hfz35_5
        try clear hfz9_0
        try clear hfz9_1
        try clear hfz9_2
        try clear hfz9_3
        try clear hfz9_4
        try clear hfz9_5
        try clear hx305_0
        try clear hx305_1
        try clear hx305_2
        try clear hx305_3
        try clear hx305_4
        try clear hx305_5
        try clear hx307_0
        try clear hx307_1
        try clear hx307_2
        try clear hx307_3
        try clear hx307_4
        try clear hx307_5
        try clear p2
        try clear p305
        try clear p307
        try clear q305
        try clear q307
        obtain ⟨kq, x69_6, rfl, HA, HJ6, BK306, BK308, HB⟩ := hcut
        cases kq with
        | zero => exact absurd HA.out (by simp [forebayref21_Equal.j1])
        | succ kj6 =>
         have H := HA.out
         clear HA
         simp only [forebayref21_Equal.j1] at H
         by_cases c36 : x69_6 = true
         ·subst c36
          have H1 : (some false) = some r := by rw [if_pos rfl] at H; exact H
          clear H
          have H := H1
          clear H1
          obtain rfl := Option.some.inj H
          go_wp2
          go_ret
          exact ⟨by first | rfl | (simp [errW_none, errW_some] <;> rfl) | (simp [*, errW_none, errW_some] <;> rfl), by repeat (first | (with_reducible first | exact HB.out | apply below_alloc | apply pw_below_drewN | apply below_drew1 | refine below_set ?_ GE306.out | refine below_set ?_ GE308.out) | exact HB.out)⟩
         ·replace c36 := Bool.eq_false_iff.mpr c36
          subst c36
          have H1 : (forebayref21_Equal.l1 kj6 l0 l1 x5_1 0 ((rd_T46 l0 x5_1).f0) ((rd_T46 l0 x5_1).f1) ((rd_T46 l0 x5_1).f2) ((rd_T46 l0 x5_1).f3) ((rd_T46 l0 x5_1).f4) ((rd_T46 l0 x5_1).f5) ((rd_T46 l1 x5_1).f0) ((rd_T46 l1 x5_1).f1) ((rd_T46 l1 x5_1).f2) ((rd_T46 l1 x5_1).f3) ((rd_T46 l1 x5_1).f4) ((rd_T46 l1 x5_1).f5)) = some r := by rw [if_neg (show ¬ (false = true) by decide)] at H; exact H
          clear H
          have H := H1
          clear H1
          have H' := Aside0.mk H
          clear H
          go_wp2
          go_loopg [8] kj6 (fun kq v8 w' => ∃ (x8_3 : Int), v8 = .int .i64 x8_3 ∧ Aside0 (forebayref21_Equal.l1 kq l0 l1 x5_1 x8_3 ((rd_T46 l0 x5_1).f0) ((rd_T46 l0 x5_1).f1) ((rd_T46 l0 x5_1).f2) ((rd_T46 l0 x5_1).f3) ((rd_T46 l0 x5_1).f4) ((rd_T46 l0 x5_1).f5) ((rd_T46 l1 x5_1).f0) ((rd_T46 l1 x5_1).f1) ((rd_T46 l1 x5_1).f2) ((rd_T46 l1 x5_1).f3) ((rd_T46 l1 x5_1).f4) ((rd_T46 l1 x5_1).f5) = some r) ∧ Aside0 (kq ≤ kj6) ∧ Aside0 (w'.heap[gb306]? = some (.cells #[.int .i64 ((rd_T46 l0 x5_1).f0), .int .i64 ((rd_T46 l0 x5_1).f1), .int .i64 ((rd_T46 l0 x5_1).f2), (.slice A305_3 ((rd_T46 l0 x5_1).f3).length c305_3), .int .i64 ((rd_T46 l0 x5_1).f4), .int .i64 ((rd_T46 l0 x5_1).f5)] 46 (0, 0))) ∧ Aside0 (w'.heap[gb308]? = some (.cells #[.int .i64 ((rd_T46 l1 x5_1).f0), .int .i64 ((rd_T46 l1 x5_1).f1), .int .i64 ((rd_T46 l1 x5_1).f2), (.slice A307_3 ((rd_T46 l1 x5_1).f3).length c307_3), .int .i64 ((rd_T46 l1 x5_1).f4), .int .i64 ((rd_T46 l1 x5_1).f5)] 46 (0, 0))) ∧ Aside0 (Below w.heap.size w w'))
          case atStart => exact ⟨(0), (by first | rfl | (simp; done) | (simp [*]; done)), H', ⟨Nat.le_refl _⟩, ⟨by (with_reducible repeat (first | refine blk_drewN ?_ _ | refine blk_drew ?_ | refine blk_alloc ?_ _)); exact BK306.out⟩, ⟨by (with_reducible repeat (first | refine blk_drewN ?_ _ | refine blk_drew ?_ | refine blk_alloc ?_ _)); exact BK308.out⟩, ⟨by repeat (first | (with_reducible first | exact HB.out | apply below_alloc | apply pw_below_drewN | apply below_drew1 | refine below_set ?_ GE306.out | refine below_set ?_ GE308.out) | exact HB.out)⟩⟩
          case round =>
           clear H'
           try clear c1
           try clear c2
           try clear p2
           try clear c3
           try clear c3b0
           try clear c3b1
           try clear c3b2
           try clear p3
           try clear q3
           try clear hx3
           try clear c4
           try clear c4b0
           try clear c5
           try clear c5b0
           try clear c6
           try clear c6b0
           try clear c11
           try clear c13
           try clear c13b0
           try clear c13b1
           try clear c14
           try clear c14b0
           try clear c14b1
           try clear c15
           try clear c15b0
           try clear c15b1
           try clear c16
           try clear c16b0
           try clear c16b1
           try clear c17
           try clear c17b0
           try clear c17b1
           try clear c18
           try clear c21
           try clear c24
           try clear c25
           try clear c27
           try clear c30
           try clear p30
           try clear q30
           try clear hx30
           try clear c33
           try clear c36
           try clear hcz12_0
           try clear hcz12_1
           try clear hcz12_2
           try clear hcz12_3
           try clear hcz12_4
           try clear hcz12_5
           try clear hcz19_0
           try clear hcz19_1
           try clear hcz19_2
           try clear hcz19_3
           try clear hcz19_4
           try clear hcz19_5
           try clear hcz20_0
           try clear hcz20_1
           try clear hcz20_2
           try clear hcz20_3
           try clear hcz20_4
           try clear hcz20_5
           try clear hcz22_0
           try clear hcz22_1
           try clear hcz22_2
           try clear hcz22_3
           try clear hcz22_4
           try clear hcz22_5
           try clear hcz23_0
           try clear hcz23_1
           try clear hcz23_2
           try clear hcz23_3
           try clear hcz23_4
           try clear hcz23_5
           try clear hcz25_0
           try clear hcz25_1
           try clear hcz25_2
           try clear hcz25_3
           try clear hcz25_4
           try clear hcz25_5
           try clear hcz26_0
           try clear hcz26_1
           try clear hcz26_2
           try clear hcz26_3
           try clear hcz26_4
           try clear hcz26_5
           try clear hcz28_0
           try clear hcz28_1
           try clear hcz28_2
           try clear hcz28_3
           try clear hcz28_4
           try clear hcz28_5
           try clear hcz29_0
           try clear hcz29_1
           try clear hcz29_2
           try clear hcz29_3
           try clear hcz29_4
           try clear hcz29_5
           try clear hcz31_0
           try clear hcz31_1
           try clear hcz31_2
           try clear hcz31_3
           try clear hcz31_4
           try clear hcz31_5
           try clear hcz32_0
           try clear hcz32_1
           try clear hcz32_2
           try clear hcz32_3
           try clear hcz32_4
           try clear hcz32_5
           try clear hcz34_0
           try clear hcz34_1
           try clear hcz34_2
           try clear hcz34_3
           try clear hcz34_4
           try clear hcz34_5
           try clear hcz35_0
           try clear hcz35_1
           try clear hcz35_2
           try clear hcz35_3
           try clear hcz35_4
           try clear hcz35_5
           try clear hcz9_0
           try clear hcz9_1
           try clear hcz9_2
           try clear hcz9_3
           try clear hcz9_4
           try clear hcz9_5
           try clear hfz12_0
           try clear hfz12_1
           try clear hfz12_2
           try clear hfz12_3
           try clear hfz12_4
           try clear hfz12_5
           try clear hfz19_0
           try clear hfz19_1
           try clear hfz19_2
           try clear hfz19_3
           try clear hfz19_4
           try clear hfz19_5
           try clear hfz20_0
           try clear hfz20_1
           try clear hfz20_2
           try clear hfz20_3
           try clear hfz20_4
           try clear hfz20_5
           try clear hfz22_0
           try clear hfz22_1
           try clear hfz22_2
           try clear hfz22_3
           try clear hfz22_4
           try clear hfz22_5
           try clear hfz23_0
           try clear hfz23_1
           try clear hfz23_2
           try clear hfz23_3
           try clear hfz23_4
           try clear hfz23_5
           try clear hfz25_0
           try clear hfz25_1
           try clear hfz25_2
           try clear hfz25_3
           try clear hfz25_4
           try clear hfz25_5
           try clear hfz26_0
           try clear hfz26_1
           try clear hfz26_2
           try clear hfz26_3
           try clear hfz26_4
           try clear hfz26_5
           try clear hfz28_0
           try clear hfz28_1
           try clear hfz28_2
           try clear hfz28_3
           try clear hfz28_4
           try clear hfz28_5
           try clear hfz29_0
           try clear hfz29_1
           try clear hfz29_2
           try clear hfz29_3
           try clear hfz29_4
           try clear hfz29_5
           try clear hfz31_0
           try clear hfz31_1
           try clear hfz31_2
           try clear hfz31_3
           try clear hfz31_4
           try clear hfz31_5
           try clear hfz32_0
           try clear hfz32_1
           try clear hfz32_2
           try clear hfz32_3
           try clear hfz32_4
           try clear hfz32_5
           try clear hfz34_0
           try clear hfz34_1
           try clear hfz34_2
           try clear hfz34_3
           try clear hfz34_4
           try clear hfz34_5
           try clear hfz35_0
           try clear hfz35_1
           try clear hfz35_2
           try clear hfz35_3
           try clear hfz35_4
           try clear hfz35_5
           try clear hfz9_0
           try clear hfz9_1
           try clear hfz9_2
           try clear hfz9_3
           try clear hfz9_4
           try clear hfz9_5
           try clear hx305_0
           try clear hx305_1
           try clear hx305_2
           try clear hx305_3
           try clear hx305_4
           try clear hx305_5
           try clear hx307_0
           try clear hx307_1
           try clear hx307_2
           try clear hx307_3
           try clear hx307_4
           try clear hx307_5
           try clear p2
           try clear p3
           try clear p30
           try clear p305
           try clear p307
           try clear q3
           try clear q30
           try clear q305
           try clear q307
           obtain ⟨x8_3, rfl, HA, HK3, BK306, BK308, HB⟩ := hrel
           cases gk with
           | zero => exact absurd HA.out (by simp [forebayref21_Equal.l1])
           | succ k3 =>
            have H := HA.out
            clear HA
            simp only [forebayref21_Equal.l1] at H
            by_cases c37 : x8_3 < (((rd_T46 l0 x5_1).f3).length : Int)
            ·rw [if_pos c37] at H
             have c37b0 : decide (x8_3 < (((rd_T46 l0 x5_1).f3).length : Int)) = true := decide_eq_true c37
             clear c37
             by_cases c38 : 0 ≤ x8_3
             ·rw [if_pos c38] at H
              have c38b0 : decide (0 ≤ x8_3) = true := decide_eq_true c38
              clear c38
              by_cases c39 : x8_3 < (((rd_T46 l1 x5_1).f3).length : Int)
              ·rw [if_pos c39] at H
               have c39b0 : decide (x8_3 < (((rd_T46 l1 x5_1).f3).length : Int)) = true := decide_eq_true c39
               clear c39
               replace H := Option.bind_eq_some_iff.mp H
               obtain ⟨t311, A400, H⟩ := H
               replace H : (if t311 = true then (forebayref21_Equal.l1 k3 l0 l1 x5_1 (wrap64 (x8_3 + 1)) ((rd_T46 l0 x5_1).f0) ((rd_T46 l0 x5_1).f1) ((rd_T46 l0 x5_1).f2) ((rd_T46 l0 x5_1).f3) ((rd_T46 l0 x5_1).f4) ((rd_T46 l0 x5_1).f5) ((rd_T46 l1 x5_1).f0) ((rd_T46 l1 x5_1).f1) ((rd_T46 l1 x5_1).f2) ((rd_T46 l1 x5_1).f3) ((rd_T46 l1 x5_1).f4) ((rd_T46 l1 x5_1).f5)) else (some false)) = some r := H
               have A40 := Aside0.mk A400
               clear A400
               by_cases c41 : t311 = true
               ·subst c41
                have H1 : (forebayref21_Equal.l1 k3 l0 l1 x5_1 (wrap64 (x8_3 + 1)) ((rd_T46 l0 x5_1).f0) ((rd_T46 l0 x5_1).f1) ((rd_T46 l0 x5_1).f2) ((rd_T46 l0 x5_1).f3) ((rd_T46 l0 x5_1).f4) ((rd_T46 l0 x5_1).f5) ((rd_T46 l1 x5_1).f0) ((rd_T46 l1 x5_1).f1) ((rd_T46 l1 x5_1).f2) ((rd_T46 l1 x5_1).f3) ((rd_T46 l1 x5_1).f4) ((rd_T46 l1 x5_1).f5)) = some r := by rw [if_pos rfl] at H; exact H
                clear H
                have H := H1
                clear H1
                have H' := Aside0.mk H
                clear H
                have hnb42 := NB306_308.out
                have hnc42 := NB308_306.out
                have hcz43_0 : wr.cell? ⟨gb306, 0, none⟩ = some (.int .i64 ((rd_T46 l0 x5_1).f0)) := (blk_cell BK306.out 0).trans rfl
                have hcz43_1 : wr.cell? ⟨gb306, 1, none⟩ = some (.int .i64 ((rd_T46 l0 x5_1).f1)) := (blk_cell BK306.out 1).trans rfl
                have hcz43_2 : wr.cell? ⟨gb306, 2, none⟩ = some (.int .i64 ((rd_T46 l0 x5_1).f2)) := (blk_cell BK306.out 2).trans rfl
                have hcz43_3 : wr.cell? ⟨gb306, 3, none⟩ = some (.slice A305_3 ((rd_T46 l0 x5_1).f3).length c305_3) := (blk_cell BK306.out 3).trans rfl
                have hcz43_4 : wr.cell? ⟨gb306, 4, none⟩ = some (.int .i64 ((rd_T46 l0 x5_1).f4)) := (blk_cell BK306.out 4).trans rfl
                have hcz43_5 : wr.cell? ⟨gb306, 5, none⟩ = some (.int .i64 ((rd_T46 l0 x5_1).f5)) := (blk_cell BK306.out 5).trans rfl
                have hfz43_0 := blk_frozen BK306.out 0
                have hfz43_1 := blk_frozen BK306.out 1
                have hfz43_2 := blk_frozen BK306.out 2
                have hfz43_3 := blk_frozen BK306.out 3
                have hfz43_4 := blk_frozen BK306.out 4
                have hfz43_5 := blk_frozen BK306.out 5
                try go_wp2
                have n0_ := Aside0.mk (blk_drew BK306.out)
                have n1_ := Aside0.mk (blk_drew BK308.out)
                have n2_ := Aside0.mk (below_drew1 HB.out)
                clear BK306
                clear BK308
                clear HB
                have BK306 := n0_
                have BK308 := n1_
                have HB := n2_
                clear n0_ n1_ n2_
                have p309 : 0 ≤ (x8_3 : Int) := of_decide_eq_true (by first | (with_reducible assumption) | assumption)
                have q309 : x8_3 < (((rd_T46 l0 x5_1).f3).length : Int) := of_decide_eq_true (by first | (with_reducible assumption) | assumption)
                obtain ⟨ad309, A309_2, c309_2, A309_4, c309_4, e309, hx309_0, hx309_1, hx309_2, hx309_3, hx309_4, hx309_5, hl309_2, hi309_2, hl309_4, hi309_4⟩ := at_T36 HR305_3.out x8_3 p309 q309
                have hw309_5 := hx309_5
                have hw309_4 := hx309_4
                have hw309_3 := hx309_3
                have hw309_2 := hx309_2
                have hw309_1 := hx309_1
                have hw309_0 := hx309_0
                cases e309
                replace hx309_0 := (HB.out.cell (World.block_lt_of_cell? w _ hx309_0)).trans hx309_0
                replace hx309_1 := (HB.out.cell (World.block_lt_of_cell? w _ hx309_1)).trans hx309_1
                replace hx309_2 := (HB.out.cell (World.block_lt_of_cell? w _ hx309_2)).trans hx309_2
                replace hx309_3 := (HB.out.cell (World.block_lt_of_cell? w _ hx309_3)).trans hx309_3
                replace hx309_4 := (HB.out.cell (World.block_lt_of_cell? w _ hx309_4)).trans hx309_4
                replace hx309_5 := (HB.out.cell (World.block_lt_of_cell? w _ hx309_5)).trans hx309_5
                have HR309_2 := Aside0.mk hi309_2
                have HC309_2 := Aside0.mk hl309_2
                clear hi309_2 hl309_2
                have HR309_4 := Aside0.mk hi309_4
                have HC309_4 := Aside0.mk hl309_4
                clear hi309_4 hl309_4
                replace p309 := eq_true p309
                replace q309 := eq_true q309
                have p310 : 0 ≤ (x8_3 : Int) := of_decide_eq_true (by first | (with_reducible assumption) | assumption)
                have q310 : x8_3 < (((rd_T46 l1 x5_1).f3).length : Int) := of_decide_eq_true (by first | (with_reducible assumption) | assumption)
                obtain ⟨ad310, A310_2, c310_2, A310_4, c310_4, e310, hx310_0, hx310_1, hx310_2, hx310_3, hx310_4, hx310_5, hl310_2, hi310_2, hl310_4, hi310_4⟩ := at_T36 HR307_3.out x8_3 p310 q310
                have hw310_5 := hx310_5
                have hw310_4 := hx310_4
                have hw310_3 := hx310_3
                have hw310_2 := hx310_2
                have hw310_1 := hx310_1
                have hw310_0 := hx310_0
                cases e310
                replace hx310_0 := (HB.out.cell (World.block_lt_of_cell? w _ hx310_0)).trans hx310_0
                replace hx310_1 := (HB.out.cell (World.block_lt_of_cell? w _ hx310_1)).trans hx310_1
                replace hx310_2 := (HB.out.cell (World.block_lt_of_cell? w _ hx310_2)).trans hx310_2
                replace hx310_3 := (HB.out.cell (World.block_lt_of_cell? w _ hx310_3)).trans hx310_3
                replace hx310_4 := (HB.out.cell (World.block_lt_of_cell? w _ hx310_4)).trans hx310_4
                replace hx310_5 := (HB.out.cell (World.block_lt_of_cell? w _ hx310_5)).trans hx310_5
                have HR310_2 := Aside0.mk hi310_2
                have HC310_2 := Aside0.mk hl310_2
                clear hi310_2 hl310_2
                have HR310_4 := Aside0.mk hi310_4
                have HC310_4 := Aside0.mk hl310_4
                clear hi310_4 hl310_4
                replace p310 := eq_true p310
                replace q310 := eq_true q310
                refine start_ (n := 12) (S := fun w' => w'.cell? ⟨gb306, 0, none⟩ = some (.int .i64 ((rd_T46 l0 x5_1).f0)) ∧ w'.cell? ⟨gb306, 1, none⟩ = some (.int .i64 ((rd_T46 l0 x5_1).f1)) ∧ w'.cell? ⟨gb306, 2, none⟩ = some (.int .i64 ((rd_T46 l0 x5_1).f2)) ∧ w'.cell? ⟨gb306, 3, none⟩ = some (.slice (some ad309) ((rd_T46 l0 x5_1).f3).length c305_3) ∧ w'.cell? ⟨gb306, 4, none⟩ = some (.int .i64 ((rd_T46 l0 x5_1).f4)) ∧ w'.cell? ⟨gb306, 5, none⟩ = some (.int .i64 ((rd_T46 l0 x5_1).f5)) ∧ w'.cell? ⟨gb308, 0, none⟩ = some (.int .i64 ((rd_T46 l1 x5_1).f0)) ∧ w'.cell? ⟨gb308, 1, none⟩ = some (.int .i64 ((rd_T46 l1 x5_1).f1)) ∧ w'.cell? ⟨gb308, 2, none⟩ = some (.int .i64 ((rd_T46 l1 x5_1).f2)) ∧ w'.cell? ⟨gb308, 3, none⟩ = some (.slice (some ad310) ((rd_T46 l1 x5_1).f3).length c307_3) ∧ w'.cell? ⟨gb308, 4, none⟩ = some (.int .i64 ((rd_T46 l1 x5_1).f4)) ∧ w'.cell? ⟨gb308, 5, none⟩ = some (.int .i64 ((rd_T46 l1 x5_1).f5)) ∧ w'.cell? (ad309.add ((x8_3).toNat * 6)) = some (.string ((rd_T36 ((rd_T46 l0 x5_1).f3) x8_3).f0)) ∧ w'.cell? ⟨(ad309.add ((x8_3).toNat * 6)).block, (ad309.add ((x8_3).toNat * 6)).off + 1, none⟩ = some (.int .i64 ((rd_T36 ((rd_T46 l0 x5_1).f3) x8_3).f1)) ∧ w'.cell? ⟨(ad309.add ((x8_3).toNat * 6)).block, (ad309.add ((x8_3).toNat * 6)).off + 2, none⟩ = some (.slice A309_2 ((rd_T36 ((rd_T46 l0 x5_1).f3) x8_3).f2).length c309_2) ∧ w'.cell? ⟨(ad309.add ((x8_3).toNat * 6)).block, (ad309.add ((x8_3).toNat * 6)).off + 3, none⟩ = some (.int .i64 ((rd_T36 ((rd_T46 l0 x5_1).f3) x8_3).f3)) ∧ w'.cell? ⟨(ad309.add ((x8_3).toNat * 6)).block, (ad309.add ((x8_3).toNat * 6)).off + 4, none⟩ = some (.slice A309_4 ((rd_T36 ((rd_T46 l0 x5_1).f3) x8_3).f4).length c309_4) ∧ w'.cell? ⟨(ad309.add ((x8_3).toNat * 6)).block, (ad309.add ((x8_3).toNat * 6)).off + 5, none⟩ = some (.int .i64 ((rd_T36 ((rd_T46 l0 x5_1).f3) x8_3).f5)) ∧ w'.cell? (ad310.add ((x8_3).toNat * 6)) = some (.string ((rd_T36 ((rd_T46 l1 x5_1).f3) x8_3).f0)) ∧ w'.cell? ⟨(ad310.add ((x8_3).toNat * 6)).block, (ad310.add ((x8_3).toNat * 6)).off + 1, none⟩ = some (.int .i64 ((rd_T36 ((rd_T46 l1 x5_1).f3) x8_3).f1)) ∧ w'.cell? ⟨(ad310.add ((x8_3).toNat * 6)).block, (ad310.add ((x8_3).toNat * 6)).off + 2, none⟩ = some (.slice A310_2 ((rd_T36 ((rd_T46 l1 x5_1).f3) x8_3).f2).length c310_2) ∧ w'.cell? ⟨(ad310.add ((x8_3).toNat * 6)).block, (ad310.add ((x8_3).toNat * 6)).off + 3, none⟩ = some (.int .i64 ((rd_T36 ((rd_T46 l1 x5_1).f3) x8_3).f3)) ∧ w'.cell? ⟨(ad310.add ((x8_3).toNat * 6)).block, (ad310.add ((x8_3).toNat * 6)).off + 4, none⟩ = some (.slice A310_4 ((rd_T36 ((rd_T46 l1 x5_1).f3) x8_3).f4).length c310_4) ∧ w'.cell? ⟨(ad310.add ((x8_3).toNat * 6)).block, (ad310.add ((x8_3).toNat * 6)).off + 5, none⟩ = some (.int .i64 ((rd_T36 ((rd_T46 l1 x5_1).f3) x8_3).f5))) (ds := []) #[false, false, false, false, false, false, false, false, false, false, false, false] (by kernel_rfl) rfl rfl ⟨(blk_cell BK306.out 0).trans rfl, (blk_cell BK306.out 1).trans rfl, (blk_cell BK306.out 2).trans rfl, (blk_cell BK306.out 3).trans rfl, (blk_cell BK306.out 4).trans rfl, (blk_cell BK306.out 5).trans rfl, (blk_cell BK308.out 0).trans rfl, (blk_cell BK308.out 1).trans rfl, (blk_cell BK308.out 2).trans rfl, (blk_cell BK308.out 3).trans rfl, (blk_cell BK308.out 4).trans rfl, (blk_cell BK308.out 5).trans rfl, ((HB.out.cell (World.block_lt_of_cell? w _ hw309_0)).trans hw309_0), ((HB.out.cell (World.block_lt_of_cell? w _ hw309_1)).trans hw309_1), ((HB.out.cell (World.block_lt_of_cell? w _ hw309_2)).trans hw309_2), ((HB.out.cell (World.block_lt_of_cell? w _ hw309_3)).trans hw309_3), ((HB.out.cell (World.block_lt_of_cell? w _ hw309_4)).trans hw309_4), ((HB.out.cell (World.block_lt_of_cell? w _ hw309_5)).trans hw309_5), ((HB.out.cell (World.block_lt_of_cell? w _ hw310_0)).trans hw310_0), ((HB.out.cell (World.block_lt_of_cell? w _ hw310_1)).trans hw310_1), ((HB.out.cell (World.block_lt_of_cell? w _ hw310_2)).trans hw310_2), ((HB.out.cell (World.block_lt_of_cell? w _ hw310_3)).trans hw310_3), ((HB.out.cell (World.block_lt_of_cell? w _ hw310_4)).trans hw310_4), ((HB.out.cell (World.block_lt_of_cell? w _ hw310_5)).trans hw310_5)⟩ (fun hHeld => ?_); refine with_tabW forebayref21_Equal.tab13 forebayref21_Equal.bits13 (fun HT_ HW_ => ?_)
                generalize wr.drew = w44 at BK306 BK308 HB HR309_2 HR309_4 HR310_2 HR310_4 hx309_0 hx309_1 hx309_2 hx309_3 hx309_4 hx309_5 hx310_0 hx310_1 hx310_2 hx310_3 hx310_4 hx310_5 hHeld ⊢
                refine pure_ (i := 0) (N := some 77) (v := ?_) (a' := ?_) #[true, false, false, false, false, false, false, false, false, false, false, false] rfl rfl (any_of HT_.out (by kernel_rfl)) (fun _ _ _ h => h) (Or.inl ⟨by rfl, ?_⟩) ?_ ?_
                rotate_left
                ·intro w'
                 go_simp
                 with_reducible rfl
                rotate_left
                ·simp only [Act.put, List.setIfInBounds_toArray, List.set_cons_zero, List.set_cons_succ, i64_w, i32_w]
                 rfl
                refine pure_ (i := 2) (N := some 79) (v := ?_) (a' := ?_) #[true, false, true, false, false, false, false, false, false, false, false, false] rfl rfl (any_of HT_.out (by kernel_rfl)) (fun _ _ _ h => h) (Or.inl ⟨by rfl, ?_⟩) ?_ ?_
                rotate_left
                ·intro w'
                 go_simp
                 with_reducible rfl
                rotate_left
                ·simp only [Act.put, List.setIfInBounds_toArray, List.set_cons_zero, List.set_cons_succ, i64_w, i32_w]
                 rfl
                refine pure_ (i := 5) (N := some 82) (v := ?_) (a' := ?_) #[true, false, true, false, false, true, false, false, false, false, false, false] rfl rfl (any_of HT_.out (by kernel_rfl)) (fun _ _ _ h => h) (Or.inl ⟨by rfl, ?_⟩) ?_ ?_
                rotate_left
                ·intro w'
                 go_simp
                 with_reducible rfl
                rotate_left
                ·simp only [Act.put, List.setIfInBounds_toArray, List.set_cons_zero, List.set_cons_succ, i64_w, i32_w]
                 rfl
                refine pure_ (i := 7) (N := some 84) (v := ?_) (a' := ?_) #[true, false, true, false, false, true, false, true, false, false, false, false] rfl rfl (any_of HT_.out (by kernel_rfl)) (fun _ _ _ h => h) (Or.inl ⟨by rfl, ?_⟩) ?_ ?_
                rotate_left
                ·intro w'
                 go_simp
                 with_reducible rfl
                rotate_left
                ·simp only [Act.put, List.setIfInBounds_toArray, List.set_cons_zero, List.set_cons_succ, i64_w, i32_w]
                 rfl
                refine take_ (i := 1) (N := some 78) (v := ?_) (a' := ?_) #[true, true, true, false, false, true, false, true, false, false, false, false] rfl rfl (take_ofW HT_.out HW_.out (by kernel_rfl)) (fun _ _ _ h => h) (Or.inl ⟨by rfl, ?_⟩) hHeld ?_ ?_
                rotate_left
                ·rintro w' ⟨s0, s1, s2, s3, s4, s5, s6, s7, s8, s9, s10, s11, s12, s13, s14, s15, s16, s17, s18, s19, s20, s21, s22, s23⟩
                 go_simp
                 with_reducible rfl
                rotate_left
                ·simp only [Act.put, List.setIfInBounds_toArray, List.set_cons_zero, List.set_cons_succ, i64_w, i32_w]
                 rfl
                refine pure_ (i := 3) (N := some 80) (v := ?_) (a' := ?_) #[true, true, true, true, false, true, false, true, false, false, false, false] rfl rfl (any_of HT_.out (by kernel_rfl)) (fun _ _ _ h => h) (Or.inl ⟨by rfl, ?_⟩) ?_ ?_
                rotate_left
                ·intro w'
                 go_simp
                 with_reducible rfl
                rotate_left
                ·simp only [Act.put, List.setIfInBounds_toArray, List.set_cons_zero, List.set_cons_succ, i64_w, i32_w]
                 rfl
                refine take_ (i := 4) (N := some 81) (v := ?_) (a' := ?_) #[true, true, true, true, true, true, false, true, false, false, false, false] rfl rfl (take_ofW HT_.out HW_.out (by kernel_rfl)) (fun _ _ _ h => h) (Or.inl ⟨by rfl, ?_⟩) hHeld ?_ ?_
                rotate_left
                ·rintro w' ⟨s0, s1, s2, s3, s4, s5, s6, s7, s8, s9, s10, s11, s12, s13, s14, s15, s16, s17, s18, s19, s20, s21, s22, s23⟩
                 go_simp
                 with_reducible rfl
                rotate_left
                ·simp only [Act.put, List.setIfInBounds_toArray, List.set_cons_zero, List.set_cons_succ, i64_w, i32_w]
                 rfl
                refine take_ (i := 6) (N := some 83) (v := ?_) (a' := ?_) #[true, true, true, true, true, true, true, true, false, false, false, false] rfl rfl (take_ofW HT_.out HW_.out (by kernel_rfl)) (fun _ _ _ h => h) (Or.inl ⟨by rfl, ?_⟩) hHeld ?_ ?_
                rotate_left
                ·rintro w' ⟨s0, s1, s2, s3, s4, s5, s6, s7, s8, s9, s10, s11, s12, s13, s14, s15, s16, s17, s18, s19, s20, s21, s22, s23⟩
                 go_simp
                 with_reducible rfl
                rotate_left
                ·simp only [Act.put, List.setIfInBounds_toArray, List.set_cons_zero, List.set_cons_succ, i64_w, i32_w]
                 rfl
                refine pure_ (i := 8) (N := some 85) (v := ?_) (a' := ?_) #[true, true, true, true, true, true, true, true, true, false, false, false] rfl rfl (any_of HT_.out (by kernel_rfl)) (fun _ _ _ h => h) (Or.inl ⟨by rfl, ?_⟩) ?_ ?_
                rotate_left
                ·intro w'
                 go_simp
                 with_reducible rfl
                rotate_left
                ·simp only [Act.put, List.setIfInBounds_toArray, List.set_cons_zero, List.set_cons_succ, i64_w, i32_w]
                 rfl
                refine take_ (i := 9) (N := some 86) (v := ?_) (a' := ?_) #[true, true, true, true, true, true, true, true, true, true, false, false] rfl rfl (take_ofW HT_.out HW_.out (by kernel_rfl)) (fun _ _ _ h => h) (Or.inl ⟨by rfl, ?_⟩) hHeld ?_ ?_
                rotate_left
                ·rintro w' ⟨s0, s1, s2, s3, s4, s5, s6, s7, s8, s9, s10, s11, s12, s13, s14, s15, s16, s17, s18, s19, s20, s21, s22, s23⟩
                 go_simp
                 with_reducible rfl
                rotate_left
                ·simp only [Act.put, List.setIfInBounds_toArray, List.set_cons_zero, List.set_cons_succ, i64_w, i32_w]
                 rfl
                refine one_ (i := 10) (N := some 87) #[true, true, true, true, true, true, true, true, true, true, true, false] rfl rfl (one_of HT_.out (by kernel_rfl)) (by decide) (fun K hK => ?_)
                refine goes_ Try.func32 (by kernel_rfl) rfl #[.agg #[.string ((rd_T36 ((rd_T46 l0 x5_1).f3) x8_3).f0), .int .i64 ((rd_T36 ((rd_T46 l0 x5_1).f3) x8_3).f1), .slice A309_2 ((rd_T36 ((rd_T46 l0 x5_1).f3) x8_3).f2).length c309_2, .int .i64 ((rd_T36 ((rd_T46 l0 x5_1).f3) x8_3).f3), .slice A309_4 ((rd_T36 ((rd_T46 l0 x5_1).f3) x8_3).f4).length c309_4, .int .i64 ((rd_T36 ((rd_T46 l0 x5_1).f3) x8_3).f5)], .agg #[.string ((rd_T36 ((rd_T46 l1 x5_1).f3) x8_3).f0), .int .i64 ((rd_T36 ((rd_T46 l1 x5_1).f3) x8_3).f1), .slice A310_2 ((rd_T36 ((rd_T46 l1 x5_1).f3) x8_3).f2).length c310_2, .int .i64 ((rd_T36 ((rd_T46 l1 x5_1).f3) x8_3).f3), .slice A310_4 ((rd_T36 ((rd_T46 l1 x5_1).f3) x8_3).f4).length c310_4, .int .i64 ((rd_T36 ((rd_T46 l1 x5_1).f3) x8_3).f5)]] (by rfl) rfl rfl (by (try simp only [List.map_toArray, List.map_cons, List.map_nil]); first | done | rfl | (simp only [List.length_drop, List.length_take]; rfl)) ?_
                with_reducible refine (forebayref07_Equal.calls k3 ((rd_T36 ((rd_T46 l0 x5_1).f3) x8_3).f0) ((rd_T36 ((rd_T46 l0 x5_1).f3) x8_3).f1) _ _ ((rd_T36 ((rd_T46 l0 x5_1).f3) x8_3).f2) ((rd_T36 ((rd_T46 l0 x5_1).f3) x8_3).f3) _ _ ((rd_T36 ((rd_T46 l0 x5_1).f3) x8_3).f4) ((rd_T36 ((rd_T46 l0 x5_1).f3) x8_3).f5) ((rd_T36 ((rd_T46 l1 x5_1).f3) x8_3).f0) ((rd_T36 ((rd_T46 l1 x5_1).f3) x8_3).f1) _ _ ((rd_T36 ((rd_T46 l1 x5_1).f3) x8_3).f2) ((rd_T36 ((rd_T46 l1 x5_1).f3) x8_3).f3) _ _ ((rd_T36 ((rd_T46 l1 x5_1).f3) x8_3).f4) ((rd_T36 ((rd_T46 l1 x5_1).f3) x8_3).f5) true _ ?side1 ?side2 ?side3 ?side4 ?side5 ?side6 ?side7 ?side8 A40.out).mono ?_
                (case side1 => repeat (first | exact (Kd.C_below HR309_2.out HB.out) | (with_reducible refine Kd.C_alloc ?_ _) | (with_reducible refine Kd.C_drewN ?_ _) | (with_reducible refine Kd.C_drew ?_)))
                (case side2 => exact HC309_2.out)
                (case side3 => repeat (first | exact (Kd.C_below HR309_4.out HB.out) | (with_reducible refine Kd.C_alloc ?_ _) | (with_reducible refine Kd.C_drewN ?_ _) | (with_reducible refine Kd.C_drew ?_)))
                (case side4 => exact HC309_4.out)
                (case side5 => repeat (first | exact (Kd.C_below HR310_2.out HB.out) | (with_reducible refine Kd.C_alloc ?_ _) | (with_reducible refine Kd.C_drewN ?_ _) | (with_reducible refine Kd.C_drew ?_)))
                (case side6 => exact HC310_2.out)
                (case side7 => repeat (first | exact (Kd.C_below HR310_4.out HB.out) | (with_reducible refine Kd.C_alloc ?_ _) | (with_reducible refine Kd.C_drewN ?_ _) | (with_reducible refine Kd.C_drew ?_)))
                (case side8 => exact HC310_4.out)
                rintro e w45 ⟨rfl, hb⟩
                refine ⟨_, rfl, ?_⟩
                have n0_ := Aside0.mk (blk_below (g := gb306) (o := .cells #[.int .i64 ((rd_T46 l0 x5_1).f0), .int .i64 ((rd_T46 l0 x5_1).f1), .int .i64 ((rd_T46 l0 x5_1).f2), .slice (some ad309) ((rd_T46 l0 x5_1).f3).length c305_3, .int .i64 ((rd_T46 l0 x5_1).f4), .int .i64 ((rd_T46 l0 x5_1).f5)] 46 (0, 0)) (by (with_reducible repeat (first | refine blk_drewN ?_ _ | refine blk_drew ?_ | refine blk_alloc ?_ _)); exact BK306.out) hb)
                have n1_ := Aside0.mk (blk_below (g := gb308) (o := .cells #[.int .i64 ((rd_T46 l1 x5_1).f0), .int .i64 ((rd_T46 l1 x5_1).f1), .int .i64 ((rd_T46 l1 x5_1).f2), .slice (some ad310) ((rd_T46 l1 x5_1).f3).length c307_3, .int .i64 ((rd_T46 l1 x5_1).f4), .int .i64 ((rd_T46 l1 x5_1).f5)] 46 (0, 0)) (by (with_reducible repeat (first | refine blk_drewN ?_ _ | refine blk_drew ?_ | refine blk_alloc ?_ _)); exact BK308.out) hb)
                have n2_ := Aside0.mk (below_step (by repeat (first | (with_reducible first | exact HB.out | apply below_alloc | apply pw_below_drewN | apply below_drew1 | refine below_set ?_ GE306.out | refine below_set ?_ GE308.out) | exact HB.out)) hb)
                clear BK306
                clear BK308
                clear HB
                have BK306 := n0_
                have BK308 := n1_
                have HB := n2_
                clear n0_ n1_ n2_
                (try clear hb)
                (try clear hb2)
                (try clear hk)
                (try clear hi)
                refine hK.out _ _ ⟨(blk_cell BK306.out 0).trans rfl, (blk_cell BK306.out 1).trans rfl, (blk_cell BK306.out 2).trans rfl, (blk_cell BK306.out 3).trans rfl, (blk_cell BK306.out 4).trans rfl, (blk_cell BK306.out 5).trans rfl, (blk_cell BK308.out 0).trans rfl, (blk_cell BK308.out 1).trans rfl, (blk_cell BK308.out 2).trans rfl, (blk_cell BK308.out 3).trans rfl, (blk_cell BK308.out 4).trans rfl, (blk_cell BK308.out 5).trans rfl, ((HB.out.cell (World.block_lt_of_cell? w _ hw309_0)).trans hw309_0), ((HB.out.cell (World.block_lt_of_cell? w _ hw309_1)).trans hw309_1), ((HB.out.cell (World.block_lt_of_cell? w _ hw309_2)).trans hw309_2), ((HB.out.cell (World.block_lt_of_cell? w _ hw309_3)).trans hw309_3), ((HB.out.cell (World.block_lt_of_cell? w _ hw309_4)).trans hw309_4), ((HB.out.cell (World.block_lt_of_cell? w _ hw309_5)).trans hw309_5), ((HB.out.cell (World.block_lt_of_cell? w _ hw310_0)).trans hw310_0), ((HB.out.cell (World.block_lt_of_cell? w _ hw310_1)).trans hw310_1), ((HB.out.cell (World.block_lt_of_cell? w _ hw310_2)).trans hw310_2), ((HB.out.cell (World.block_lt_of_cell? w _ hw310_3)).trans hw310_3), ((HB.out.cell (World.block_lt_of_cell? w _ hw310_4)).trans hw310_4), ((HB.out.cell (World.block_lt_of_cell? w _ hw310_5)).trans hw310_5)⟩ (fun hHeld => ?_)
                clear hK K
                refine norm_ (a' := ?_) ?_ ?_
                rotate_left
                ·show Act.put _ (some 87) _ = _
                 simp only [Act.put, List.setIfInBounds_toArray, List.set_cons_zero, List.set_cons_succ, i64_w, i32_w]
                 rfl
                refine pure_ (i := 11) (N := some 88) (v := ?_) (a' := ?_) #[true, true, true, true, true, true, true, true, true, true, true, true] rfl rfl (any_of HT_.out (by kernel_rfl)) (fun _ _ _ h => h) (Or.inl ⟨by rfl, ?_⟩) ?_ ?_
                rotate_left
                ·intro w'
                 go_simp
                 with_reducible rfl
                rotate_left
                ·simp only [Act.put, List.setIfInBounds_toArray, List.set_cons_zero, List.set_cons_succ, i64_w, i32_w]
                 rfl
                refine done_ (done_of HT_.out (by kernel_rfl)) ?_
                try go_wp2
                go_roundg k3
                case measure => have := HK1.out; have := HJ6.out; have := HK3.out; omega
                case rel => exact ⟨(wrap64 (x8_3 + 1)), (by first | rfl | (simp; done) | (simp [*]; done)), H', ⟨by have := HK1.out; have := HJ6.out; have := HK3.out; omega⟩, ⟨by (with_reducible repeat (first | refine blk_drewN ?_ _ | refine blk_drew ?_ | refine blk_alloc ?_ _)); exact BK306.out⟩, ⟨by (with_reducible repeat (first | refine blk_drewN ?_ _ | refine blk_drew ?_ | refine blk_alloc ?_ _)); exact BK308.out⟩, ⟨by repeat (first | (with_reducible first | exact HB.out | apply below_alloc | apply pw_below_drewN | apply below_drew1 | refine below_set ?_ GE306.out | refine below_set ?_ GE308.out) | exact HB.out)⟩⟩
               ·replace c41 := Bool.eq_false_iff.mpr c41
                subst c41
                have H1 : (some false) = some r := by rw [if_neg (show ¬ (false = true) by decide)] at H; exact H
                clear H
                have H := H1
                clear H1
                obtain rfl := Option.some.inj H
                have hnb46 := NB306_308.out
                have hnc46 := NB308_306.out
                have hcz47_0 : wr.cell? ⟨gb306, 0, none⟩ = some (.int .i64 ((rd_T46 l0 x5_1).f0)) := (blk_cell BK306.out 0).trans rfl
                have hcz47_1 : wr.cell? ⟨gb306, 1, none⟩ = some (.int .i64 ((rd_T46 l0 x5_1).f1)) := (blk_cell BK306.out 1).trans rfl
                have hcz47_2 : wr.cell? ⟨gb306, 2, none⟩ = some (.int .i64 ((rd_T46 l0 x5_1).f2)) := (blk_cell BK306.out 2).trans rfl
                have hcz47_3 : wr.cell? ⟨gb306, 3, none⟩ = some (.slice A305_3 ((rd_T46 l0 x5_1).f3).length c305_3) := (blk_cell BK306.out 3).trans rfl
                have hcz47_4 : wr.cell? ⟨gb306, 4, none⟩ = some (.int .i64 ((rd_T46 l0 x5_1).f4)) := (blk_cell BK306.out 4).trans rfl
                have hcz47_5 : wr.cell? ⟨gb306, 5, none⟩ = some (.int .i64 ((rd_T46 l0 x5_1).f5)) := (blk_cell BK306.out 5).trans rfl
                have hfz47_0 := blk_frozen BK306.out 0
                have hfz47_1 := blk_frozen BK306.out 1
                have hfz47_2 := blk_frozen BK306.out 2
                have hfz47_3 := blk_frozen BK306.out 3
                have hfz47_4 := blk_frozen BK306.out 4
                have hfz47_5 := blk_frozen BK306.out 5
                try go_wp2
                have n0_ := Aside0.mk (blk_drew BK306.out)
                have n1_ := Aside0.mk (blk_drew BK308.out)
                have n2_ := Aside0.mk (below_drew1 HB.out)
                clear BK306
                clear BK308
                clear HB
                have BK306 := n0_
                have BK308 := n1_
                have HB := n2_
                clear n0_ n1_ n2_
                have p309 : 0 ≤ (x8_3 : Int) := of_decide_eq_true (by first | (with_reducible assumption) | assumption)
                have q309 : x8_3 < (((rd_T46 l0 x5_1).f3).length : Int) := of_decide_eq_true (by first | (with_reducible assumption) | assumption)
                obtain ⟨ad309, A309_2, c309_2, A309_4, c309_4, e309, hx309_0, hx309_1, hx309_2, hx309_3, hx309_4, hx309_5, hl309_2, hi309_2, hl309_4, hi309_4⟩ := at_T36 HR305_3.out x8_3 p309 q309
                have hw309_5 := hx309_5
                have hw309_4 := hx309_4
                have hw309_3 := hx309_3
                have hw309_2 := hx309_2
                have hw309_1 := hx309_1
                have hw309_0 := hx309_0
                cases e309
                replace hx309_0 := (HB.out.cell (World.block_lt_of_cell? w _ hx309_0)).trans hx309_0
                replace hx309_1 := (HB.out.cell (World.block_lt_of_cell? w _ hx309_1)).trans hx309_1
                replace hx309_2 := (HB.out.cell (World.block_lt_of_cell? w _ hx309_2)).trans hx309_2
                replace hx309_3 := (HB.out.cell (World.block_lt_of_cell? w _ hx309_3)).trans hx309_3
                replace hx309_4 := (HB.out.cell (World.block_lt_of_cell? w _ hx309_4)).trans hx309_4
                replace hx309_5 := (HB.out.cell (World.block_lt_of_cell? w _ hx309_5)).trans hx309_5
                have HR309_2 := Aside0.mk hi309_2
                have HC309_2 := Aside0.mk hl309_2
                clear hi309_2 hl309_2
                have HR309_4 := Aside0.mk hi309_4
                have HC309_4 := Aside0.mk hl309_4
                clear hi309_4 hl309_4
                replace p309 := eq_true p309
                replace q309 := eq_true q309
                have p310 : 0 ≤ (x8_3 : Int) := of_decide_eq_true (by first | (with_reducible assumption) | assumption)
                have q310 : x8_3 < (((rd_T46 l1 x5_1).f3).length : Int) := of_decide_eq_true (by first | (with_reducible assumption) | assumption)
                obtain ⟨ad310, A310_2, c310_2, A310_4, c310_4, e310, hx310_0, hx310_1, hx310_2, hx310_3, hx310_4, hx310_5, hl310_2, hi310_2, hl310_4, hi310_4⟩ := at_T36 HR307_3.out x8_3 p310 q310
                have hw310_5 := hx310_5
                have hw310_4 := hx310_4
                have hw310_3 := hx310_3
                have hw310_2 := hx310_2
                have hw310_1 := hx310_1
                have hw310_0 := hx310_0
                cases e310
                replace hx310_0 := (HB.out.cell (World.block_lt_of_cell? w _ hx310_0)).trans hx310_0
                replace hx310_1 := (HB.out.cell (World.block_lt_of_cell? w _ hx310_1)).trans hx310_1
                replace hx310_2 := (HB.out.cell (World.block_lt_of_cell? w _ hx310_2)).trans hx310_2
                replace hx310_3 := (HB.out.cell (World.block_lt_of_cell? w _ hx310_3)).trans hx310_3
                replace hx310_4 := (HB.out.cell (World.block_lt_of_cell? w _ hx310_4)).trans hx310_4
                replace hx310_5 := (HB.out.cell (World.block_lt_of_cell? w _ hx310_5)).trans hx310_5
                have HR310_2 := Aside0.mk hi310_2
                have HC310_2 := Aside0.mk hl310_2
                clear hi310_2 hl310_2
                have HR310_4 := Aside0.mk hi310_4
                have HC310_4 := Aside0.mk hl310_4
                clear hi310_4 hl310_4
                replace p310 := eq_true p310
                replace q310 := eq_true q310
                refine start_ (n := 12) (S := fun w' => w'.cell? ⟨gb306, 0, none⟩ = some (.int .i64 ((rd_T46 l0 x5_1).f0)) ∧ w'.cell? ⟨gb306, 1, none⟩ = some (.int .i64 ((rd_T46 l0 x5_1).f1)) ∧ w'.cell? ⟨gb306, 2, none⟩ = some (.int .i64 ((rd_T46 l0 x5_1).f2)) ∧ w'.cell? ⟨gb306, 3, none⟩ = some (.slice (some ad309) ((rd_T46 l0 x5_1).f3).length c305_3) ∧ w'.cell? ⟨gb306, 4, none⟩ = some (.int .i64 ((rd_T46 l0 x5_1).f4)) ∧ w'.cell? ⟨gb306, 5, none⟩ = some (.int .i64 ((rd_T46 l0 x5_1).f5)) ∧ w'.cell? ⟨gb308, 0, none⟩ = some (.int .i64 ((rd_T46 l1 x5_1).f0)) ∧ w'.cell? ⟨gb308, 1, none⟩ = some (.int .i64 ((rd_T46 l1 x5_1).f1)) ∧ w'.cell? ⟨gb308, 2, none⟩ = some (.int .i64 ((rd_T46 l1 x5_1).f2)) ∧ w'.cell? ⟨gb308, 3, none⟩ = some (.slice (some ad310) ((rd_T46 l1 x5_1).f3).length c307_3) ∧ w'.cell? ⟨gb308, 4, none⟩ = some (.int .i64 ((rd_T46 l1 x5_1).f4)) ∧ w'.cell? ⟨gb308, 5, none⟩ = some (.int .i64 ((rd_T46 l1 x5_1).f5)) ∧ w'.cell? (ad309.add ((x8_3).toNat * 6)) = some (.string ((rd_T36 ((rd_T46 l0 x5_1).f3) x8_3).f0)) ∧ w'.cell? ⟨(ad309.add ((x8_3).toNat * 6)).block, (ad309.add ((x8_3).toNat * 6)).off + 1, none⟩ = some (.int .i64 ((rd_T36 ((rd_T46 l0 x5_1).f3) x8_3).f1)) ∧ w'.cell? ⟨(ad309.add ((x8_3).toNat * 6)).block, (ad309.add ((x8_3).toNat * 6)).off + 2, none⟩ = some (.slice A309_2 ((rd_T36 ((rd_T46 l0 x5_1).f3) x8_3).f2).length c309_2) ∧ w'.cell? ⟨(ad309.add ((x8_3).toNat * 6)).block, (ad309.add ((x8_3).toNat * 6)).off + 3, none⟩ = some (.int .i64 ((rd_T36 ((rd_T46 l0 x5_1).f3) x8_3).f3)) ∧ w'.cell? ⟨(ad309.add ((x8_3).toNat * 6)).block, (ad309.add ((x8_3).toNat * 6)).off + 4, none⟩ = some (.slice A309_4 ((rd_T36 ((rd_T46 l0 x5_1).f3) x8_3).f4).length c309_4) ∧ w'.cell? ⟨(ad309.add ((x8_3).toNat * 6)).block, (ad309.add ((x8_3).toNat * 6)).off + 5, none⟩ = some (.int .i64 ((rd_T36 ((rd_T46 l0 x5_1).f3) x8_3).f5)) ∧ w'.cell? (ad310.add ((x8_3).toNat * 6)) = some (.string ((rd_T36 ((rd_T46 l1 x5_1).f3) x8_3).f0)) ∧ w'.cell? ⟨(ad310.add ((x8_3).toNat * 6)).block, (ad310.add ((x8_3).toNat * 6)).off + 1, none⟩ = some (.int .i64 ((rd_T36 ((rd_T46 l1 x5_1).f3) x8_3).f1)) ∧ w'.cell? ⟨(ad310.add ((x8_3).toNat * 6)).block, (ad310.add ((x8_3).toNat * 6)).off + 2, none⟩ = some (.slice A310_2 ((rd_T36 ((rd_T46 l1 x5_1).f3) x8_3).f2).length c310_2) ∧ w'.cell? ⟨(ad310.add ((x8_3).toNat * 6)).block, (ad310.add ((x8_3).toNat * 6)).off + 3, none⟩ = some (.int .i64 ((rd_T36 ((rd_T46 l1 x5_1).f3) x8_3).f3)) ∧ w'.cell? ⟨(ad310.add ((x8_3).toNat * 6)).block, (ad310.add ((x8_3).toNat * 6)).off + 4, none⟩ = some (.slice A310_4 ((rd_T36 ((rd_T46 l1 x5_1).f3) x8_3).f4).length c310_4) ∧ w'.cell? ⟨(ad310.add ((x8_3).toNat * 6)).block, (ad310.add ((x8_3).toNat * 6)).off + 5, none⟩ = some (.int .i64 ((rd_T36 ((rd_T46 l1 x5_1).f3) x8_3).f5))) (ds := []) #[false, false, false, false, false, false, false, false, false, false, false, false] (by kernel_rfl) rfl rfl ⟨(blk_cell BK306.out 0).trans rfl, (blk_cell BK306.out 1).trans rfl, (blk_cell BK306.out 2).trans rfl, (blk_cell BK306.out 3).trans rfl, (blk_cell BK306.out 4).trans rfl, (blk_cell BK306.out 5).trans rfl, (blk_cell BK308.out 0).trans rfl, (blk_cell BK308.out 1).trans rfl, (blk_cell BK308.out 2).trans rfl, (blk_cell BK308.out 3).trans rfl, (blk_cell BK308.out 4).trans rfl, (blk_cell BK308.out 5).trans rfl, ((HB.out.cell (World.block_lt_of_cell? w _ hw309_0)).trans hw309_0), ((HB.out.cell (World.block_lt_of_cell? w _ hw309_1)).trans hw309_1), ((HB.out.cell (World.block_lt_of_cell? w _ hw309_2)).trans hw309_2), ((HB.out.cell (World.block_lt_of_cell? w _ hw309_3)).trans hw309_3), ((HB.out.cell (World.block_lt_of_cell? w _ hw309_4)).trans hw309_4), ((HB.out.cell (World.block_lt_of_cell? w _ hw309_5)).trans hw309_5), ((HB.out.cell (World.block_lt_of_cell? w _ hw310_0)).trans hw310_0), ((HB.out.cell (World.block_lt_of_cell? w _ hw310_1)).trans hw310_1), ((HB.out.cell (World.block_lt_of_cell? w _ hw310_2)).trans hw310_2), ((HB.out.cell (World.block_lt_of_cell? w _ hw310_3)).trans hw310_3), ((HB.out.cell (World.block_lt_of_cell? w _ hw310_4)).trans hw310_4), ((HB.out.cell (World.block_lt_of_cell? w _ hw310_5)).trans hw310_5)⟩ (fun hHeld => ?_); refine with_tabW forebayref21_Equal.tab13 forebayref21_Equal.bits13 (fun HT_ HW_ => ?_)
                generalize wr.drew = w48 at BK306 BK308 HB HR309_2 HR309_4 HR310_2 HR310_4 hx309_0 hx309_1 hx309_2 hx309_3 hx309_4 hx309_5 hx310_0 hx310_1 hx310_2 hx310_3 hx310_4 hx310_5 hHeld ⊢
                refine pure_ (i := 0) (N := some 77) (v := ?_) (a' := ?_) #[true, false, false, false, false, false, false, false, false, false, false, false] rfl rfl (any_of HT_.out (by kernel_rfl)) (fun _ _ _ h => h) (Or.inl ⟨by rfl, ?_⟩) ?_ ?_
                rotate_left
                ·intro w'
                 go_simp
                 with_reducible rfl
                rotate_left
                ·simp only [Act.put, List.setIfInBounds_toArray, List.set_cons_zero, List.set_cons_succ, i64_w, i32_w]
                 rfl
                refine pure_ (i := 2) (N := some 79) (v := ?_) (a' := ?_) #[true, false, true, false, false, false, false, false, false, false, false, false] rfl rfl (any_of HT_.out (by kernel_rfl)) (fun _ _ _ h => h) (Or.inl ⟨by rfl, ?_⟩) ?_ ?_
                rotate_left
                ·intro w'
                 go_simp
                 with_reducible rfl
                rotate_left
                ·simp only [Act.put, List.setIfInBounds_toArray, List.set_cons_zero, List.set_cons_succ, i64_w, i32_w]
                 rfl
                refine pure_ (i := 5) (N := some 82) (v := ?_) (a' := ?_) #[true, false, true, false, false, true, false, false, false, false, false, false] rfl rfl (any_of HT_.out (by kernel_rfl)) (fun _ _ _ h => h) (Or.inl ⟨by rfl, ?_⟩) ?_ ?_
                rotate_left
                ·intro w'
                 go_simp
                 with_reducible rfl
                rotate_left
                ·simp only [Act.put, List.setIfInBounds_toArray, List.set_cons_zero, List.set_cons_succ, i64_w, i32_w]
                 rfl
                refine pure_ (i := 7) (N := some 84) (v := ?_) (a' := ?_) #[true, false, true, false, false, true, false, true, false, false, false, false] rfl rfl (any_of HT_.out (by kernel_rfl)) (fun _ _ _ h => h) (Or.inl ⟨by rfl, ?_⟩) ?_ ?_
                rotate_left
                ·intro w'
                 go_simp
                 with_reducible rfl
                rotate_left
                ·simp only [Act.put, List.setIfInBounds_toArray, List.set_cons_zero, List.set_cons_succ, i64_w, i32_w]
                 rfl
                refine take_ (i := 1) (N := some 78) (v := ?_) (a' := ?_) #[true, true, true, false, false, true, false, true, false, false, false, false] rfl rfl (take_ofW HT_.out HW_.out (by kernel_rfl)) (fun _ _ _ h => h) (Or.inl ⟨by rfl, ?_⟩) hHeld ?_ ?_
                rotate_left
                ·rintro w' ⟨s0, s1, s2, s3, s4, s5, s6, s7, s8, s9, s10, s11, s12, s13, s14, s15, s16, s17, s18, s19, s20, s21, s22, s23⟩
                 go_simp
                 with_reducible rfl
                rotate_left
                ·simp only [Act.put, List.setIfInBounds_toArray, List.set_cons_zero, List.set_cons_succ, i64_w, i32_w]
                 rfl
                refine pure_ (i := 3) (N := some 80) (v := ?_) (a' := ?_) #[true, true, true, true, false, true, false, true, false, false, false, false] rfl rfl (any_of HT_.out (by kernel_rfl)) (fun _ _ _ h => h) (Or.inl ⟨by rfl, ?_⟩) ?_ ?_
                rotate_left
                ·intro w'
                 go_simp
                 with_reducible rfl
                rotate_left
                ·simp only [Act.put, List.setIfInBounds_toArray, List.set_cons_zero, List.set_cons_succ, i64_w, i32_w]
                 rfl
                refine take_ (i := 4) (N := some 81) (v := ?_) (a' := ?_) #[true, true, true, true, true, true, false, true, false, false, false, false] rfl rfl (take_ofW HT_.out HW_.out (by kernel_rfl)) (fun _ _ _ h => h) (Or.inl ⟨by rfl, ?_⟩) hHeld ?_ ?_
                rotate_left
                ·rintro w' ⟨s0, s1, s2, s3, s4, s5, s6, s7, s8, s9, s10, s11, s12, s13, s14, s15, s16, s17, s18, s19, s20, s21, s22, s23⟩
                 go_simp
                 with_reducible rfl
                rotate_left
                ·simp only [Act.put, List.setIfInBounds_toArray, List.set_cons_zero, List.set_cons_succ, i64_w, i32_w]
                 rfl
                refine take_ (i := 6) (N := some 83) (v := ?_) (a' := ?_) #[true, true, true, true, true, true, true, true, false, false, false, false] rfl rfl (take_ofW HT_.out HW_.out (by kernel_rfl)) (fun _ _ _ h => h) (Or.inl ⟨by rfl, ?_⟩) hHeld ?_ ?_
                rotate_left
                ·rintro w' ⟨s0, s1, s2, s3, s4, s5, s6, s7, s8, s9, s10, s11, s12, s13, s14, s15, s16, s17, s18, s19, s20, s21, s22, s23⟩
                 go_simp
                 with_reducible rfl
                rotate_left
                ·simp only [Act.put, List.setIfInBounds_toArray, List.set_cons_zero, List.set_cons_succ, i64_w, i32_w]
                 rfl
                refine pure_ (i := 8) (N := some 85) (v := ?_) (a' := ?_) #[true, true, true, true, true, true, true, true, true, false, false, false] rfl rfl (any_of HT_.out (by kernel_rfl)) (fun _ _ _ h => h) (Or.inl ⟨by rfl, ?_⟩) ?_ ?_
                rotate_left
                ·intro w'
                 go_simp
                 with_reducible rfl
                rotate_left
                ·simp only [Act.put, List.setIfInBounds_toArray, List.set_cons_zero, List.set_cons_succ, i64_w, i32_w]
                 rfl
                refine take_ (i := 9) (N := some 86) (v := ?_) (a' := ?_) #[true, true, true, true, true, true, true, true, true, true, false, false] rfl rfl (take_ofW HT_.out HW_.out (by kernel_rfl)) (fun _ _ _ h => h) (Or.inl ⟨by rfl, ?_⟩) hHeld ?_ ?_
                rotate_left
                ·rintro w' ⟨s0, s1, s2, s3, s4, s5, s6, s7, s8, s9, s10, s11, s12, s13, s14, s15, s16, s17, s18, s19, s20, s21, s22, s23⟩
                 go_simp
                 with_reducible rfl
                rotate_left
                ·simp only [Act.put, List.setIfInBounds_toArray, List.set_cons_zero, List.set_cons_succ, i64_w, i32_w]
                 rfl
                refine one_ (i := 10) (N := some 87) #[true, true, true, true, true, true, true, true, true, true, true, false] rfl rfl (one_of HT_.out (by kernel_rfl)) (by decide) (fun K hK => ?_)
                refine goes_ Try.func32 (by kernel_rfl) rfl #[.agg #[.string ((rd_T36 ((rd_T46 l0 x5_1).f3) x8_3).f0), .int .i64 ((rd_T36 ((rd_T46 l0 x5_1).f3) x8_3).f1), .slice A309_2 ((rd_T36 ((rd_T46 l0 x5_1).f3) x8_3).f2).length c309_2, .int .i64 ((rd_T36 ((rd_T46 l0 x5_1).f3) x8_3).f3), .slice A309_4 ((rd_T36 ((rd_T46 l0 x5_1).f3) x8_3).f4).length c309_4, .int .i64 ((rd_T36 ((rd_T46 l0 x5_1).f3) x8_3).f5)], .agg #[.string ((rd_T36 ((rd_T46 l1 x5_1).f3) x8_3).f0), .int .i64 ((rd_T36 ((rd_T46 l1 x5_1).f3) x8_3).f1), .slice A310_2 ((rd_T36 ((rd_T46 l1 x5_1).f3) x8_3).f2).length c310_2, .int .i64 ((rd_T36 ((rd_T46 l1 x5_1).f3) x8_3).f3), .slice A310_4 ((rd_T36 ((rd_T46 l1 x5_1).f3) x8_3).f4).length c310_4, .int .i64 ((rd_T36 ((rd_T46 l1 x5_1).f3) x8_3).f5)]] (by rfl) rfl rfl (by (try simp only [List.map_toArray, List.map_cons, List.map_nil]); first | done | rfl | (simp only [List.length_drop, List.length_take]; rfl)) ?_
                with_reducible refine (forebayref07_Equal.calls k3 ((rd_T36 ((rd_T46 l0 x5_1).f3) x8_3).f0) ((rd_T36 ((rd_T46 l0 x5_1).f3) x8_3).f1) _ _ ((rd_T36 ((rd_T46 l0 x5_1).f3) x8_3).f2) ((rd_T36 ((rd_T46 l0 x5_1).f3) x8_3).f3) _ _ ((rd_T36 ((rd_T46 l0 x5_1).f3) x8_3).f4) ((rd_T36 ((rd_T46 l0 x5_1).f3) x8_3).f5) ((rd_T36 ((rd_T46 l1 x5_1).f3) x8_3).f0) ((rd_T36 ((rd_T46 l1 x5_1).f3) x8_3).f1) _ _ ((rd_T36 ((rd_T46 l1 x5_1).f3) x8_3).f2) ((rd_T36 ((rd_T46 l1 x5_1).f3) x8_3).f3) _ _ ((rd_T36 ((rd_T46 l1 x5_1).f3) x8_3).f4) ((rd_T36 ((rd_T46 l1 x5_1).f3) x8_3).f5) false _ ?side1 ?side2 ?side3 ?side4 ?side5 ?side6 ?side7 ?side8 A40.out).mono ?_
                (case side1 => repeat (first | exact (Kd.C_below HR309_2.out HB.out) | (with_reducible refine Kd.C_alloc ?_ _) | (with_reducible refine Kd.C_drewN ?_ _) | (with_reducible refine Kd.C_drew ?_)))
                (case side2 => exact HC309_2.out)
                (case side3 => repeat (first | exact (Kd.C_below HR309_4.out HB.out) | (with_reducible refine Kd.C_alloc ?_ _) | (with_reducible refine Kd.C_drewN ?_ _) | (with_reducible refine Kd.C_drew ?_)))
                (case side4 => exact HC309_4.out)
                (case side5 => repeat (first | exact (Kd.C_below HR310_2.out HB.out) | (with_reducible refine Kd.C_alloc ?_ _) | (with_reducible refine Kd.C_drewN ?_ _) | (with_reducible refine Kd.C_drew ?_)))
                (case side6 => exact HC310_2.out)
                (case side7 => repeat (first | exact (Kd.C_below HR310_4.out HB.out) | (with_reducible refine Kd.C_alloc ?_ _) | (with_reducible refine Kd.C_drewN ?_ _) | (with_reducible refine Kd.C_drew ?_)))
                (case side8 => exact HC310_4.out)
                rintro e w49 ⟨rfl, hb⟩
                refine ⟨_, rfl, ?_⟩
                have n0_ := Aside0.mk (blk_below (g := gb306) (o := .cells #[.int .i64 ((rd_T46 l0 x5_1).f0), .int .i64 ((rd_T46 l0 x5_1).f1), .int .i64 ((rd_T46 l0 x5_1).f2), .slice (some ad309) ((rd_T46 l0 x5_1).f3).length c305_3, .int .i64 ((rd_T46 l0 x5_1).f4), .int .i64 ((rd_T46 l0 x5_1).f5)] 46 (0, 0)) (by (with_reducible repeat (first | refine blk_drewN ?_ _ | refine blk_drew ?_ | refine blk_alloc ?_ _)); exact BK306.out) hb)
                have n1_ := Aside0.mk (blk_below (g := gb308) (o := .cells #[.int .i64 ((rd_T46 l1 x5_1).f0), .int .i64 ((rd_T46 l1 x5_1).f1), .int .i64 ((rd_T46 l1 x5_1).f2), .slice (some ad310) ((rd_T46 l1 x5_1).f3).length c307_3, .int .i64 ((rd_T46 l1 x5_1).f4), .int .i64 ((rd_T46 l1 x5_1).f5)] 46 (0, 0)) (by (with_reducible repeat (first | refine blk_drewN ?_ _ | refine blk_drew ?_ | refine blk_alloc ?_ _)); exact BK308.out) hb)
                have n2_ := Aside0.mk (below_step (by repeat (first | (with_reducible first | exact HB.out | apply below_alloc | apply pw_below_drewN | apply below_drew1 | refine below_set ?_ GE306.out | refine below_set ?_ GE308.out) | exact HB.out)) hb)
                clear BK306
                clear BK308
                clear HB
                have BK306 := n0_
                have BK308 := n1_
                have HB := n2_
                clear n0_ n1_ n2_
                (try clear hb)
                (try clear hb2)
                (try clear hk)
                (try clear hi)
                refine hK.out _ _ ⟨(blk_cell BK306.out 0).trans rfl, (blk_cell BK306.out 1).trans rfl, (blk_cell BK306.out 2).trans rfl, (blk_cell BK306.out 3).trans rfl, (blk_cell BK306.out 4).trans rfl, (blk_cell BK306.out 5).trans rfl, (blk_cell BK308.out 0).trans rfl, (blk_cell BK308.out 1).trans rfl, (blk_cell BK308.out 2).trans rfl, (blk_cell BK308.out 3).trans rfl, (blk_cell BK308.out 4).trans rfl, (blk_cell BK308.out 5).trans rfl, ((HB.out.cell (World.block_lt_of_cell? w _ hw309_0)).trans hw309_0), ((HB.out.cell (World.block_lt_of_cell? w _ hw309_1)).trans hw309_1), ((HB.out.cell (World.block_lt_of_cell? w _ hw309_2)).trans hw309_2), ((HB.out.cell (World.block_lt_of_cell? w _ hw309_3)).trans hw309_3), ((HB.out.cell (World.block_lt_of_cell? w _ hw309_4)).trans hw309_4), ((HB.out.cell (World.block_lt_of_cell? w _ hw309_5)).trans hw309_5), ((HB.out.cell (World.block_lt_of_cell? w _ hw310_0)).trans hw310_0), ((HB.out.cell (World.block_lt_of_cell? w _ hw310_1)).trans hw310_1), ((HB.out.cell (World.block_lt_of_cell? w _ hw310_2)).trans hw310_2), ((HB.out.cell (World.block_lt_of_cell? w _ hw310_3)).trans hw310_3), ((HB.out.cell (World.block_lt_of_cell? w _ hw310_4)).trans hw310_4), ((HB.out.cell (World.block_lt_of_cell? w _ hw310_5)).trans hw310_5)⟩ (fun hHeld => ?_)
                clear hK K
                refine norm_ (a' := ?_) ?_ ?_
                rotate_left
                ·show Act.put _ (some 87) _ = _
                 simp only [Act.put, List.setIfInBounds_toArray, List.set_cons_zero, List.set_cons_succ, i64_w, i32_w]
                 rfl
                refine pure_ (i := 11) (N := some 88) (v := ?_) (a' := ?_) #[true, true, true, true, true, true, true, true, true, true, true, true] rfl rfl (any_of HT_.out (by kernel_rfl)) (fun _ _ _ h => h) (Or.inl ⟨by rfl, ?_⟩) ?_ ?_
                rotate_left
                ·intro w'
                 go_simp
                 with_reducible rfl
                rotate_left
                ·simp only [Act.put, List.setIfInBounds_toArray, List.set_cons_zero, List.set_cons_succ, i64_w, i32_w]
                 rfl
                refine done_ (done_of HT_.out (by kernel_rfl)) ?_
                try go_wp2
                go_ret
                exact ⟨by first | rfl | (simp [errW_none, errW_some] <;> rfl) | (simp [*, errW_none, errW_some] <;> rfl), by repeat (first | (with_reducible first | exact HB.out | apply below_alloc | apply pw_below_drewN | apply below_drew1 | refine below_set ?_ GE306.out | refine below_set ?_ GE308.out) | exact HB.out)⟩
              ·rw [if_neg c39] at H
               exact absurd H (by simp)
             ·rw [if_neg c38] at H
              exact absurd H (by simp)
            ·rw [if_neg c37] at H
             have c37b0 : decide (x8_3 < (((rd_T46 l0 x5_1).f3).length : Int)) = false := decide_eq_false c37
             clear c37
             have H' := Aside0.mk H
             clear H
             have hnb50 := NB306_308.out
             have hnc50 := NB308_306.out
             have hcz51_0 : wr.cell? ⟨gb306, 0, none⟩ = some (.int .i64 ((rd_T46 l0 x5_1).f0)) := (blk_cell BK306.out 0).trans rfl
             have hcz51_1 : wr.cell? ⟨gb306, 1, none⟩ = some (.int .i64 ((rd_T46 l0 x5_1).f1)) := (blk_cell BK306.out 1).trans rfl
             have hcz51_2 : wr.cell? ⟨gb306, 2, none⟩ = some (.int .i64 ((rd_T46 l0 x5_1).f2)) := (blk_cell BK306.out 2).trans rfl
             have hcz51_3 : wr.cell? ⟨gb306, 3, none⟩ = some (.slice A305_3 ((rd_T46 l0 x5_1).f3).length c305_3) := (blk_cell BK306.out 3).trans rfl
             have hcz51_4 : wr.cell? ⟨gb306, 4, none⟩ = some (.int .i64 ((rd_T46 l0 x5_1).f4)) := (blk_cell BK306.out 4).trans rfl
             have hcz51_5 : wr.cell? ⟨gb306, 5, none⟩ = some (.int .i64 ((rd_T46 l0 x5_1).f5)) := (blk_cell BK306.out 5).trans rfl
             have hfz51_0 := blk_frozen BK306.out 0
             have hfz51_1 := blk_frozen BK306.out 1
             have hfz51_2 := blk_frozen BK306.out 2
             have hfz51_3 := blk_frozen BK306.out 3
             have hfz51_4 := blk_frozen BK306.out 4
             have hfz51_5 := blk_frozen BK306.out 5
             go_wp2
             go_roundg k3
             case measure => have := HK1.out; have := HJ6.out; have := HK3.out; omega
             case rel => exact ⟨(wrap64 (x5_1 + 1)), (by first | rfl | (simp; done) | (simp [*]; done)), H', ⟨by have := HK1.out; have := HJ6.out; have := HK3.out; omega⟩, ⟨by repeat (first | (with_reducible first | exact HB.out | apply below_alloc | apply pw_below_drewN | apply below_drew1 | refine below_set ?_ GE306.out | refine below_set ?_ GE308.out) | exact HB.out)⟩⟩
      ·rw [if_neg c6] at H
       exact absurd H (by simp)
     ·rw [if_neg c5] at H
      exact absurd H (by simp)
    ·rw [if_neg c4] at H
     have c4b0 : decide (x5_1 < (l0.length : Int)) = false := decide_eq_false c4
     clear c4
     obtain rfl := Option.some.inj H
     go_wp2
     go_ret
     exact ⟨by first | rfl | (simp [errW_none, errW_some] <;> rfl) | (simp [*, errW_none, errW_some] <;> rfl), by repeat (first | (with_reducible first | exact HB.out | apply below_alloc | apply pw_below_drewN | apply below_drew1) | exact HB.out)⟩
 ·rw [if_neg c3] at H
  have c3b0 : ((l0.length : Int) == (l1.length : Int)) = false := beq_eq_false_iff_ne.mpr c3
  have c3b1 : ((l0.length : Int) != (l1.length : Int)) = true := bne_iff_ne.mpr c3
  have c3b2 : (l0.length == l1.length) = false := by first | simpa using c3 | (simp at c3 ⊢; omega)
  obtain rfl := Option.some.inj H
  go_enter Try.func25, Try.ntmps25
  go_wp2
  go_ret
  exact ⟨by first | rfl | (simp [errW_none, errW_some] <;> rfl) | (simp [*, errW_none, errW_some] <;> rfl), by repeat (first | (with_reducible first | exact HB.out | apply below_alloc | apply pw_below_drewN | apply below_drew1) | exact HB.out)⟩

end Go.Proofs.Ytigchloekolaoaa.PEventTells

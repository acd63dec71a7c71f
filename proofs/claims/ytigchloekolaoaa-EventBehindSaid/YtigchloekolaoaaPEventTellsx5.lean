-- Laid by the kit's print over bodies of the prover's own for a few functions
import Derived.Laws.Cover3
import Derived.Test.YtigchloekolaoaaPEventTellsx0
import Derived.Test.YtigchloekolaoaaPEventTellsx1
import Derived.Test.YtigchloekolaoaaPEventTellsx4
namespace Go.Proofs.Ytigchloekolaoaa.PEventTells
open Go.RowKit Go.Proofs.YtigchloekolaoaaW.PrintWords Go.Proofs.YtigchloekolaoaaW.PrintLast Go.Proofs.YtigchloekolaoaaW.PrintMore
attribute [local go_sem] max2_int min2_int max_two min_two max_three min_three max_four min_four   -- for this text's walks alone
set_option linter.unusedVariables false
set_option linter.unusedSimpArgs false

attribute [local go_sem high] eqA24
/-! ### event_Count: function 11 -/
def event_Count.l0 : Nat → List (S46) → Int → Int → Int → Int → Int → Int → Int → Int → Int → Option (Int × Int × Int × Int × Int × Int × Int)
 | 0, _, _, _, _, _, _, _, _, _, _ => none
 | k + 1, x6, x7, x8, x115000, x115001, x115002, x115003, x115004, x115005, x115006 => if x8 < x7 then (if 0 ≤ x8 then (if x8 < (x6.length : Int) then ((event_one.f ((rd_T46 x6 x8).f0) ((rd_T46 x6 x8).f1) ((rd_T46 x6 x8).f2) ((rd_T46 x6 x8).f3) ((rd_T46 x6 x8).f4) ((rd_T46 x6 x8).f5)).bind fun bt117 => ((event_Add.f x115000 x115001 x115002 x115003 x115004 x115005 x115006 bt117.1 bt117.2.1 bt117.2.2.1 bt117.2.2.2.1 bt117.2.2.2.2.1 bt117.2.2.2.2.2.1 bt117.2.2.2.2.2.2).bind fun bt124 => (event_Count.l0 k x6 x7 (wrap64 (x8 + 1)) bt124.1 bt124.2.1 bt124.2.2.1 bt124.2.2.2.1 bt124.2.2.2.2.1 bt124.2.2.2.2.2.1 bt124.2.2.2.2.2.2))) else (none)) else (none)) else (some (x115000, x115001, x115002, x115003, x115004, x115005, x115006))
def event_Count.f (k : Nat) (l0 : List (S46)) : Option (Int × Int × Int × Int × Int × Int × Int) := event_Count.l0 k l0 (l0.length : Int) 0 0 0 0 0 0 0 0
theorem event_Count.mono_l : ∀ k, (∀ y0 y1 y2 y3 y4 y5 y6 y7 y8 y9, LeO (event_Count.l0 k y0 y1 y2 y3 y4 y5 y6 y7 y8 y9) (event_Count.l0 (k + 1) y0 y1 y2 y3 y4 y5 y6 y7 y8 y9))
 | 0 => fun _ _ _ _ _ _ _ _ _ _ r h => by simp [event_Count.l0] at h
 | k + 1 => by
  have ih0 := event_Count.mono_l k
  ·intro y0 y1 y2 y3 y4 y5 y6 y7 y8 y9
   unfold event_Count.l0
   repeat' first
   | (with_reducible exact ih0 _ _ _ _ _ _ _ _ _ _)
   | (with_reducible exact LeO.refl _)
   | (with_reducible exact LeO.none _)
   | (with_reducible refine LeO.ite ?_ ?_)
   | (with_reducible refine LeO.bind ?_ (fun _ => ?_))
   | exact ih0 _ _ _ _ _ _ _ _ _ _
   | exact LeO.none _
   | refine LeO.ite ?_ ?_
   | refine LeO.bind ?_ (fun _ => ?_)
theorem event_Count.mono : ∀ a0 k, LeO (event_Count.f k a0) (event_Count.f (k + 1) a0) := by
 intro a0 k
 have ih0 := event_Count.mono_l k
 unfold event_Count.f
 repeat' first
   | (with_reducible exact ih0 _ _ _ _ _ _ _ _ _ _)
   | (with_reducible exact LeO.refl _)
   | (with_reducible exact LeO.none _)
   | (with_reducible refine LeO.ite ?_ ?_)
   | (with_reducible refine LeO.bind ?_ (fun _ => ?_))
   | exact ih0 _ _ _ _ _ _ _ _ _ _
   | exact LeO.none _
   | refine LeO.ite ?_ ?_
   | refine LeO.bind ?_ (fun _ => ?_)
set_option maxHeartbeats 8000000 in
set_option maxRecDepth 100000 in
theorem event_Count.calls (k : Nat) (A0 : Option Addr) (c0 : Nat) (l0 : List (S46)) (r1 : Int) (r2 : Int) (r3 : Int) (r4 : Int) (r5 : Int) (r6 : Int) (r7 : Int) (w : World) (hr0 : Kd.C k46 w A0 l0.length l0) (hc0 : l0.length ≤ c0) (h : event_Count.f k l0 = some (r1, r2, r3, r4, r5, r6, r7)) :
  Calls Try.prog 11 #[.slice A0 l0.length c0] w fun e w' => e = .returned (.agg #[.int .i64 r1, .int .i64 r2, .int .i64 r3, .int .i64 r4, .int .i64 r5, .int .i64 r6, .int .i64 r7]) ∧ Below w.heap.size w w' := by
 have hu24 := Try.underlying24
 have hu46 := Try.underlying46
 have HR0 := Aside0.mk hr0
 have HC0 := Aside0.mk hc0
 clear hr0 hc0
 have HB := Aside0.mk (Below.refl w.heap.size w)
 have H : (event_Count.l0 k l0 (l0.length : Int) 0 0 0 0 0 0 0 0) = some (r1, r2, r3, r4, r5, r6, r7) := h
 clear h
 have H' := Aside0.mk H
 clear H
 go_enter Try.func11, Try.ntmps11
 go_wp2_with (first | ((with_reducible refine gate_dst (N := 2) rfl ?_); refine box_event ?hg (N := 2) ?hd (cs := #[.int .i64 0, .int .i64 0, .int .i64 0, .int .i64 0, .int .i64 0, .int .i64 0, .int .i64 0]) (t := 24) ?hr ?_; (case hd => rfl); (case hg => rfl); (case hr => first | (go_simp; done) | (go_simp; rfl)); intro gb113 hg w2 hbox hb; have n0_ := Aside0.mk (below_step (by repeat (first | (with_reducible first | exact HB.out | apply below_alloc | apply pw_below_drewN | apply below_drew1) | exact HB.out)) hb); have n1_ := Aside0.mk (hbox); have n2_ := Aside0.mk ((by rw [hg]; exact (below_size (by repeat (first | (with_reducible first | exact HB.out | apply below_alloc | apply pw_below_drewN | apply below_drew1) | exact HB.out))) : w.heap.size ≤ gb113)); have n3_ := Aside0.mk ((by rw [hg]; exact (below_size (by repeat (first | (with_reducible first | exact HB.out | apply below_alloc | apply pw_below_drewN | apply below_drew1) | exact HB.out))) : w.heap.size ≤ gb113)); clear HB; have HB := n0_; have BK113 := n1_; have GW113 := n2_; have GE113 := n3_; clear n0_ n1_ n2_ n3_; clear hb hbox hg) | ((with_reducible refine gate_dst (N := 3) rfl ?_); refine box_event ?hg (N := 3) ?hd (cs := #[.int .i64 0, .int .i64 0, .int .i64 0, .int .i64 0, .int .i64 0, .int .i64 0, .int .i64 0]) (t := 24) ?hr ?_; (case hd => rfl); (case hg => rfl); (case hr => first | (go_simp; done) | (go_simp; rfl)); intro gb114 hg w3 hbox hb; have n0_ := Aside0.mk (blk_below (g := gb113) (o := .cells #[.int .i64 0, .int .i64 0, .int .i64 0, .int .i64 0, .int .i64 0, .int .i64 0, .int .i64 0] 24 (0, 0)) (by (with_reducible repeat (first | refine blk_drewN ?_ _ | refine blk_drew ?_ | refine blk_alloc ?_ _)); exact BK113.out) hb); have n1_ := Aside0.mk (below_step (by repeat (first | (with_reducible first | exact HB.out | apply below_alloc | apply pw_below_drewN | apply below_drew1 | refine below_set ?_ GE113.out) | exact HB.out)) hb); have n2_ := Aside0.mk (hbox); have n3_ := Aside0.mk ((by rw [hg]; exact (below_size (by repeat (first | (with_reducible first | exact HB.out | apply below_alloc | apply pw_below_drewN | apply below_drew1 | refine below_set ?_ GE113.out) | exact HB.out))) : w.heap.size ≤ gb114)); have n4_ := Aside0.mk ((by rw [hg]; exact (below_size (by repeat (first | (with_reducible first | exact HB.out | apply below_alloc | apply pw_below_drewN | apply below_drew1 | refine below_set ?_ GE113.out) | exact HB.out))) : w.heap.size ≤ gb114)); have n5_ := Aside0.mk ((by rw [hg]; exact Nat.ne_of_lt (blk_lt (g := gb113) (o := .cells #[.int .i64 0, .int .i64 0, .int .i64 0, .int .i64 0, .int .i64 0, .int .i64 0, .int .i64 0] 24 (0, 0)) (by (with_reducible repeat (first | refine blk_drewN ?_ _ | refine blk_drew ?_ | refine blk_alloc ?_ _)); exact BK113.out)) : gb113 ≠ gb114)); have n6_ := Aside0.mk ((by rw [hg]; exact Nat.ne_of_gt (blk_lt (g := gb113) (o := .cells #[.int .i64 0, .int .i64 0, .int .i64 0, .int .i64 0, .int .i64 0, .int .i64 0, .int .i64 0] 24 (0, 0)) (by (with_reducible repeat (first | refine blk_drewN ?_ _ | refine blk_drew ?_ | refine blk_alloc ?_ _)); exact BK113.out)) : gb114 ≠ gb113)); clear BK113; clear HB; have BK113 := n0_; have HB := n1_; have BK114 := n2_; have GW114 := n3_; have GE114 := n4_; have NB113_114 := n5_; have NB114_113 := n6_; clear n0_ n1_ n2_ n3_ n4_ n5_ n6_; clear hb hbox hg))
 go_loopg [8] k (fun kq v8 w' => ∃ (x8_1 : Int) (x115000_1 : Int) (x115001_1 : Int) (x115002_1 : Int) (x115003_1 : Int) (x115004_1 : Int) (x115005_1 : Int) (x115006_1 : Int), v8 = .int .i64 x8_1 ∧ Aside0 (event_Count.l0 kq l0 (l0.length : Int) x8_1 x115000_1 x115001_1 x115002_1 x115003_1 x115004_1 x115005_1 x115006_1 = some (r1, r2, r3, r4, r5, r6, r7)) ∧ Aside0 (kq ≤ k) ∧ Aside0 (w'.heap[gb113]? = some (.cells #[.int .i64 0, .int .i64 0, .int .i64 0, .int .i64 0, .int .i64 0, .int .i64 0, .int .i64 0] 24 (0, 0))) ∧ Aside0 (w'.heap[gb114]? = some (.cells #[.int .i64 x115000_1, .int .i64 x115001_1, .int .i64 x115002_1, .int .i64 x115003_1, .int .i64 x115004_1, .int .i64 x115005_1, .int .i64 x115006_1] 24 (0, 0))) ∧ Aside0 (Below w.heap.size w w'))
 case atStart => exact ⟨(0), (0), (0), (0), (0), (0), (0), (0), (by first | rfl | (simp; done) | (simp [*]; done)), H', ⟨Nat.le_refl _⟩, ⟨by (with_reducible repeat (first | refine blk_drewN ?_ _ | refine blk_drew ?_ | refine blk_alloc ?_ _)); exact BK113.out⟩, ⟨by (with_reducible repeat (first | refine blk_drewN ?_ _ | refine blk_drew ?_ | refine blk_alloc ?_ _)); exact BK114.out⟩, ⟨by repeat (first | (with_reducible first | exact HB.out | apply below_alloc | apply pw_below_drewN | apply below_drew1 | refine below_set ?_ GE113.out | refine below_set ?_ GE114.out) | exact HB.out)⟩⟩
 case round =>
  clear H'
  try clear c1
  try clear p2
  obtain ⟨x8_1, x115000_1, x115001_1, x115002_1, x115003_1, x115004_1, x115005_1, x115006_1, rfl, HA, HK1, BK113, BK114, HB⟩ := hrel
  cases gk with
  | zero => exact absurd HA.out (by simp [event_Count.l0])
  | succ k1 =>
   have H := HA.out
   clear HA
   simp only [event_Count.l0] at H
   by_cases c4 : x8_1 < (l0.length : Int)
   ·rw [if_pos c4] at H
    have c4b0 : decide (x8_1 < (l0.length : Int)) = true := decide_eq_true c4
    clear c4
    by_cases c5 : 0 ≤ x8_1
    ·rw [if_pos c5] at H
     have c5b0 : decide (0 ≤ x8_1) = true := decide_eq_true c5
     clear c5
     by_cases c6 : x8_1 < (l0.length : Int)
     ·rw [if_pos c6] at H
      have c6b0 : decide (x8_1 < (l0.length : Int)) = true := decide_eq_true c6
      clear c6
      replace H := Option.bind_eq_some_iff.mp H
      obtain ⟨⟨t117, t118, t119, t120, t121, t122, t123⟩, A70, H⟩ := H
      replace H : ((event_Add.f x115000_1 x115001_1 x115002_1 x115003_1 x115004_1 x115005_1 x115006_1 t117 t118 t119 t120 t121 t122 t123).bind fun bt124 => (event_Count.l0 k1 l0 (l0.length : Int) (wrap64 (x8_1 + 1)) bt124.1 bt124.2.1 bt124.2.2.1 bt124.2.2.2.1 bt124.2.2.2.2.1 bt124.2.2.2.2.2.1 bt124.2.2.2.2.2.2)) = some (r1, r2, r3, r4, r5, r6, r7) := H
      have A7 := Aside0.mk A70
      clear A70
      replace H := Option.bind_eq_some_iff.mp H
      obtain ⟨⟨t124, t125, t126, t127, t128, t129, t130⟩, A80, H⟩ := H
      replace H : (event_Count.l0 k1 l0 (l0.length : Int) (wrap64 (x8_1 + 1)) t124 t125 t126 t127 t128 t129 t130) = some (r1, r2, r3, r4, r5, r6, r7) := H
      have A8 := Aside0.mk A80
      clear A80
      have H' := Aside0.mk H
      clear H
      have p115 : 0 ≤ (x8_1 : Int) := of_decide_eq_true (by first | (with_reducible assumption) | assumption)
      have q115 : x8_1 < (l0.length : Int) := of_decide_eq_true (by first | (with_reducible assumption) | assumption)
      obtain ⟨ad115, A115_3, c115_3, e115, hx115_0, hx115_1, hx115_2, hx115_3, hx115_4, hx115_5, hl115_3, hi115_3⟩ := at_T46 HR0.out x8_1 p115 q115
      cases e115
      replace hx115_0 := (HB.out.cell (World.block_lt_of_cell? w _ hx115_0)).trans hx115_0
      replace hx115_1 := (HB.out.cell (World.block_lt_of_cell? w _ hx115_1)).trans hx115_1
      replace hx115_2 := (HB.out.cell (World.block_lt_of_cell? w _ hx115_2)).trans hx115_2
      replace hx115_3 := (HB.out.cell (World.block_lt_of_cell? w _ hx115_3)).trans hx115_3
      replace hx115_4 := (HB.out.cell (World.block_lt_of_cell? w _ hx115_4)).trans hx115_4
      replace hx115_5 := (HB.out.cell (World.block_lt_of_cell? w _ hx115_5)).trans hx115_5
      have HR115_3 := Aside0.mk hi115_3
      have HC115_3 := Aside0.mk hl115_3
      clear hi115_3 hl115_3
      replace p115 := eq_true p115
      replace q115 := eq_true q115
      try go_wp2_with (first | ((with_reducible refine gate_dst (N := 5) rfl ?_); refine box_event ?hg (N := 5) ?hd (cs := #[.int .i64 0, .int .i64 0, .int .i64 0, .slice none 0 0, .int .i64 0, .int .i64 0]) (t := 46) ?hr ?_; (case hd => rfl); (case hg => rfl); (case hr => first | (go_simp; done) | (go_simp; rfl)); intro gb116 hg w9 hbox hb; have n0_ := Aside0.mk (blk_below (g := gb113) (o := .cells #[.int .i64 0, .int .i64 0, .int .i64 0, .int .i64 0, .int .i64 0, .int .i64 0, .int .i64 0] 24 (0, 0)) (by (with_reducible repeat (first | refine blk_drewN ?_ _ | refine blk_drew ?_ | refine blk_alloc ?_ _)); exact BK113.out) hb); have n1_ := Aside0.mk (blk_below (g := gb114) (o := .cells #[.int .i64 x115000_1, .int .i64 x115001_1, .int .i64 x115002_1, .int .i64 x115003_1, .int .i64 x115004_1, .int .i64 x115005_1, .int .i64 x115006_1] 24 (0, 0)) (by (with_reducible repeat (first | refine blk_drewN ?_ _ | refine blk_drew ?_ | refine blk_alloc ?_ _)); exact BK114.out) hb); have n2_ := Aside0.mk (below_step (by repeat (first | (with_reducible first | exact HB.out | apply below_alloc | apply pw_below_drewN | apply below_drew1 | refine below_set ?_ GE113.out | refine below_set ?_ GE114.out) | exact HB.out)) hb); have n3_ := Aside0.mk (hbox); have n4_ := Aside0.mk ((by rw [hg]; exact (below_size (by repeat (first | (with_reducible first | exact HB.out | apply below_alloc | apply pw_below_drewN | apply below_drew1 | refine below_set ?_ GE113.out | refine below_set ?_ GE114.out) | exact HB.out))) : w.heap.size ≤ gb116)); have n5_ := Aside0.mk ((by rw [hg]; exact (below_size (by repeat (first | (with_reducible first | exact HB.out | apply below_alloc | apply pw_below_drewN | apply below_drew1 | refine below_set ?_ GE113.out | refine below_set ?_ GE114.out) | exact HB.out))) : w.heap.size ≤ gb116)); have n6_ := Aside0.mk ((by rw [hg]; exact Nat.ne_of_lt (blk_lt (g := gb113) (o := .cells #[.int .i64 0, .int .i64 0, .int .i64 0, .int .i64 0, .int .i64 0, .int .i64 0, .int .i64 0] 24 (0, 0)) (by (with_reducible repeat (first | refine blk_drewN ?_ _ | refine blk_drew ?_ | refine blk_alloc ?_ _)); exact BK113.out)) : gb113 ≠ gb116)); have n7_ := Aside0.mk ((by rw [hg]; exact Nat.ne_of_gt (blk_lt (g := gb113) (o := .cells #[.int .i64 0, .int .i64 0, .int .i64 0, .int .i64 0, .int .i64 0, .int .i64 0, .int .i64 0] 24 (0, 0)) (by (with_reducible repeat (first | refine blk_drewN ?_ _ | refine blk_drew ?_ | refine blk_alloc ?_ _)); exact BK113.out)) : gb116 ≠ gb113)); have n8_ := Aside0.mk ((by rw [hg]; exact Nat.ne_of_lt (blk_lt (g := gb114) (o := .cells #[.int .i64 x115000_1, .int .i64 x115001_1, .int .i64 x115002_1, .int .i64 x115003_1, .int .i64 x115004_1, .int .i64 x115005_1, .int .i64 x115006_1] 24 (0, 0)) (by (with_reducible repeat (first | refine blk_drewN ?_ _ | refine blk_drew ?_ | refine blk_alloc ?_ _)); exact BK114.out)) : gb114 ≠ gb116)); have n9_ := Aside0.mk ((by rw [hg]; exact Nat.ne_of_gt (blk_lt (g := gb114) (o := .cells #[.int .i64 x115000_1, .int .i64 x115001_1, .int .i64 x115002_1, .int .i64 x115003_1, .int .i64 x115004_1, .int .i64 x115005_1, .int .i64 x115006_1] 24 (0, 0)) (by (with_reducible repeat (first | refine blk_drewN ?_ _ | refine blk_drew ?_ | refine blk_alloc ?_ _)); exact BK114.out)) : gb116 ≠ gb114)); clear BK113; clear BK114; clear HB; have BK113 := n0_; have BK114 := n1_; have HB := n2_; have BK116 := n3_; have GW116 := n4_; have GE116 := n5_; have NB113_116 := n6_; have NB116_113 := n7_; have NB114_116 := n8_; have NB116_114 := n9_; clear n0_ n1_ n2_ n3_ n4_ n5_ n6_ n7_ n8_ n9_; clear hb hbox hg; have hnb10 := NB116_113.out; have hnc10 := NB113_116.out; have hnb11 := NB116_114.out; have hnc11 := NB114_116.out; have hcz12_0 : w9.cell? ⟨gb116, 0, none⟩ = some (.int .i64 0) := (blk_cell BK116.out 0).trans rfl; have hcz12_1 : w9.cell? ⟨gb116, 1, none⟩ = some (.int .i64 0) := (blk_cell BK116.out 1).trans rfl; have hcz12_2 : w9.cell? ⟨gb116, 2, none⟩ = some (.int .i64 0) := (blk_cell BK116.out 2).trans rfl; have hcz12_3 : w9.cell? ⟨gb116, 3, none⟩ = some (.slice none 0 0) := (blk_cell BK116.out 3).trans rfl; have hcz12_4 : w9.cell? ⟨gb116, 4, none⟩ = some (.int .i64 0) := (blk_cell BK116.out 4).trans rfl; have hcz12_5 : w9.cell? ⟨gb116, 5, none⟩ = some (.int .i64 0) := (blk_cell BK116.out 5).trans rfl; have hfz12_0 := blk_frozen BK116.out 0; have hfz12_1 := blk_frozen BK116.out 1; have hfz12_2 := blk_frozen BK116.out 2; have hfz12_3 := blk_frozen BK116.out 3; have hfz12_4 := blk_frozen BK116.out 4; have hfz12_5 := blk_frozen BK116.out 5))
      have n0_ : Aside0 (((((((w9.setCell ⟨gb116, 0, none⟩ (.int .i64 ((rd_T46 l0 x8_1).f0))).setCell ⟨gb116, 1, none⟩ (.int .i64 ((rd_T46 l0 x8_1).f1))).setCell ⟨gb116, 2, none⟩ (.int .i64 ((rd_T46 l0 x8_1).f2))).setCell ⟨gb116, 3, none⟩ (.slice A115_3 ((rd_T46 l0 x8_1).f3).length c115_3)).setCell ⟨gb116, 4, none⟩ (.int .i64 ((rd_T46 l0 x8_1).f4))).setCell ⟨gb116, 5, none⟩ (.int .i64 ((rd_T46 l0 x8_1).f5))).heap[gb113]? = some (.cells #[.int .i64 0, .int .i64 0, .int .i64 0, .int .i64 0, .int .i64 0, .int .i64 0, .int .i64 0] 24 (0, 0))) := ⟨by (with_reducible repeat (first | refine blk_drewN ?_ _ | refine blk_drew ?_ | refine blk_alloc ?_ _)); refine blk_far ?_ NB113_116.out _; (with_reducible repeat (first | refine blk_drewN ?_ _ | refine blk_drew ?_ | refine blk_alloc ?_ _)); refine blk_far ?_ NB113_116.out _; (with_reducible repeat (first | refine blk_drewN ?_ _ | refine blk_drew ?_ | refine blk_alloc ?_ _)); refine blk_far ?_ NB113_116.out _; (with_reducible repeat (first | refine blk_drewN ?_ _ | refine blk_drew ?_ | refine blk_alloc ?_ _)); refine blk_far ?_ NB113_116.out _; (with_reducible repeat (first | refine blk_drewN ?_ _ | refine blk_drew ?_ | refine blk_alloc ?_ _)); refine blk_far ?_ NB113_116.out _; (with_reducible repeat (first | refine blk_drewN ?_ _ | refine blk_drew ?_ | refine blk_alloc ?_ _)); refine blk_far ?_ NB113_116.out _; (with_reducible repeat (first | refine blk_drewN ?_ _ | refine blk_drew ?_ | refine blk_alloc ?_ _)); exact BK113.out⟩
      have n1_ : Aside0 (((((((w9.setCell ⟨gb116, 0, none⟩ (.int .i64 ((rd_T46 l0 x8_1).f0))).setCell ⟨gb116, 1, none⟩ (.int .i64 ((rd_T46 l0 x8_1).f1))).setCell ⟨gb116, 2, none⟩ (.int .i64 ((rd_T46 l0 x8_1).f2))).setCell ⟨gb116, 3, none⟩ (.slice A115_3 ((rd_T46 l0 x8_1).f3).length c115_3)).setCell ⟨gb116, 4, none⟩ (.int .i64 ((rd_T46 l0 x8_1).f4))).setCell ⟨gb116, 5, none⟩ (.int .i64 ((rd_T46 l0 x8_1).f5))).heap[gb114]? = some (.cells #[.int .i64 x115000_1, .int .i64 x115001_1, .int .i64 x115002_1, .int .i64 x115003_1, .int .i64 x115004_1, .int .i64 x115005_1, .int .i64 x115006_1] 24 (0, 0))) := ⟨by (with_reducible repeat (first | refine blk_drewN ?_ _ | refine blk_drew ?_ | refine blk_alloc ?_ _)); refine blk_far ?_ NB114_116.out _; (with_reducible repeat (first | refine blk_drewN ?_ _ | refine blk_drew ?_ | refine blk_alloc ?_ _)); refine blk_far ?_ NB114_116.out _; (with_reducible repeat (first | refine blk_drewN ?_ _ | refine blk_drew ?_ | refine blk_alloc ?_ _)); refine blk_far ?_ NB114_116.out _; (with_reducible repeat (first | refine blk_drewN ?_ _ | refine blk_drew ?_ | refine blk_alloc ?_ _)); refine blk_far ?_ NB114_116.out _; (with_reducible repeat (first | refine blk_drewN ?_ _ | refine blk_drew ?_ | refine blk_alloc ?_ _)); refine blk_far ?_ NB114_116.out _; (with_reducible repeat (first | refine blk_drewN ?_ _ | refine blk_drew ?_ | refine blk_alloc ?_ _)); refine blk_far ?_ NB114_116.out _; (with_reducible repeat (first | refine blk_drewN ?_ _ | refine blk_drew ?_ | refine blk_alloc ?_ _)); exact BK114.out⟩
      have n2_ : Aside0 (((((((w9.setCell ⟨gb116, 0, none⟩ (.int .i64 ((rd_T46 l0 x8_1).f0))).setCell ⟨gb116, 1, none⟩ (.int .i64 ((rd_T46 l0 x8_1).f1))).setCell ⟨gb116, 2, none⟩ (.int .i64 ((rd_T46 l0 x8_1).f2))).setCell ⟨gb116, 3, none⟩ (.slice A115_3 ((rd_T46 l0 x8_1).f3).length c115_3)).setCell ⟨gb116, 4, none⟩ (.int .i64 ((rd_T46 l0 x8_1).f4))).setCell ⟨gb116, 5, none⟩ (.int .i64 ((rd_T46 l0 x8_1).f5))).heap[gb116]? = some (.cells #[.int .i64 ((rd_T46 l0 x8_1).f0), .int .i64 ((rd_T46 l0 x8_1).f1), .int .i64 ((rd_T46 l0 x8_1).f2), .slice A115_3 ((rd_T46 l0 x8_1).f3).length c115_3, .int .i64 ((rd_T46 l0 x8_1).f4), .int .i64 ((rd_T46 l0 x8_1).f5)] 46 (0, 0))) := ⟨by (with_reducible repeat (first | refine blk_drewN ?_ _ | refine blk_drew ?_ | refine blk_alloc ?_ _)); refine blk_put (cs := #[.int .i64 ((rd_T46 l0 x8_1).f0), .int .i64 ((rd_T46 l0 x8_1).f1), .int .i64 ((rd_T46 l0 x8_1).f2), .slice A115_3 ((rd_T46 l0 x8_1).f3).length c115_3, .int .i64 ((rd_T46 l0 x8_1).f4), .int .i64 0]) ?_ 5 _ rfl; (with_reducible repeat (first | refine blk_drewN ?_ _ | refine blk_drew ?_ | refine blk_alloc ?_ _)); refine blk_put (cs := #[.int .i64 ((rd_T46 l0 x8_1).f0), .int .i64 ((rd_T46 l0 x8_1).f1), .int .i64 ((rd_T46 l0 x8_1).f2), .slice A115_3 ((rd_T46 l0 x8_1).f3).length c115_3, .int .i64 0, .int .i64 0]) ?_ 4 _ rfl; (with_reducible repeat (first | refine blk_drewN ?_ _ | refine blk_drew ?_ | refine blk_alloc ?_ _)); refine blk_put (cs := #[.int .i64 ((rd_T46 l0 x8_1).f0), .int .i64 ((rd_T46 l0 x8_1).f1), .int .i64 ((rd_T46 l0 x8_1).f2), .slice none 0 0, .int .i64 0, .int .i64 0]) ?_ 3 _ rfl; (with_reducible repeat (first | refine blk_drewN ?_ _ | refine blk_drew ?_ | refine blk_alloc ?_ _)); refine blk_put (cs := #[.int .i64 ((rd_T46 l0 x8_1).f0), .int .i64 ((rd_T46 l0 x8_1).f1), .int .i64 0, .slice none 0 0, .int .i64 0, .int .i64 0]) ?_ 2 _ rfl; (with_reducible repeat (first | refine blk_drewN ?_ _ | refine blk_drew ?_ | refine blk_alloc ?_ _)); refine blk_put (cs := #[.int .i64 ((rd_T46 l0 x8_1).f0), .int .i64 0, .int .i64 0, .slice none 0 0, .int .i64 0, .int .i64 0]) ?_ 1 _ rfl; (with_reducible repeat (first | refine blk_drewN ?_ _ | refine blk_drew ?_ | refine blk_alloc ?_ _)); refine blk_put (cs := #[.int .i64 0, .int .i64 0, .int .i64 0, .slice none 0 0, .int .i64 0, .int .i64 0]) ?_ 0 _ rfl; (with_reducible repeat (first | refine blk_drewN ?_ _ | refine blk_drew ?_ | refine blk_alloc ?_ _)); exact BK116.out⟩
      have n3_ : Aside0 (Below w.heap.size w ((((((w9.setCell ⟨gb116, 0, none⟩ (.int .i64 ((rd_T46 l0 x8_1).f0))).setCell ⟨gb116, 1, none⟩ (.int .i64 ((rd_T46 l0 x8_1).f1))).setCell ⟨gb116, 2, none⟩ (.int .i64 ((rd_T46 l0 x8_1).f2))).setCell ⟨gb116, 3, none⟩ (.slice A115_3 ((rd_T46 l0 x8_1).f3).length c115_3)).setCell ⟨gb116, 4, none⟩ (.int .i64 ((rd_T46 l0 x8_1).f4))).setCell ⟨gb116, 5, none⟩ (.int .i64 ((rd_T46 l0 x8_1).f5)))) := ⟨by repeat (first | (with_reducible first | exact HB.out | apply below_alloc | apply pw_below_drewN | apply below_drew1 | refine below_set ?_ GE113.out | refine below_set ?_ GE114.out | refine below_set ?_ GE116.out) | exact HB.out)⟩
      (try clear BK113)
      (try clear BK114)
      (try clear BK116)
      (try clear HB)
      generalize ((((((w9.setCell ⟨gb116, 0, none⟩ (.int .i64 ((rd_T46 l0 x8_1).f0))).setCell ⟨gb116, 1, none⟩ (.int .i64 ((rd_T46 l0 x8_1).f1))).setCell ⟨gb116, 2, none⟩ (.int .i64 ((rd_T46 l0 x8_1).f2))).setCell ⟨gb116, 3, none⟩ (.slice A115_3 ((rd_T46 l0 x8_1).f3).length c115_3)).setCell ⟨gb116, 4, none⟩ (.int .i64 ((rd_T46 l0 x8_1).f4))).setCell ⟨gb116, 5, none⟩ (.int .i64 ((rd_T46 l0 x8_1).f5))) = w13 at n0_ n1_ n2_ n3_ ⊢
      have BK113 := n0_
      have BK114 := n1_
      have BK116 := n2_
      have HB := n3_
      clear n0_ n1_ n2_ n3_
      have n0_ := Aside0.mk (blk_drew BK113.out)
      have n1_ := Aside0.mk (blk_drew BK114.out)
      have n2_ := Aside0.mk (blk_drew BK116.out)
      have n3_ := Aside0.mk (below_drew1 HB.out)
      clear BK113
      clear BK114
      clear BK116
      clear HB
      have BK113 := n0_
      have BK114 := n1_
      have BK116 := n2_
      have HB := n3_
      clear n0_ n1_ n2_ n3_
      refine start_ (n := 5) (S := fun w' => w'.cell? ⟨gb114, 0, none⟩ = some (.int .i64 x115000_1) ∧ w'.cell? ⟨gb114, 1, none⟩ = some (.int .i64 x115001_1) ∧ w'.cell? ⟨gb114, 2, none⟩ = some (.int .i64 x115002_1) ∧ w'.cell? ⟨gb114, 3, none⟩ = some (.int .i64 x115003_1) ∧ w'.cell? ⟨gb114, 4, none⟩ = some (.int .i64 x115004_1) ∧ w'.cell? ⟨gb114, 5, none⟩ = some (.int .i64 x115005_1) ∧ w'.cell? ⟨gb114, 6, none⟩ = some (.int .i64 x115006_1) ∧ w'.cell? ⟨gb116, 0, none⟩ = some (.int .i64 ((rd_T46 l0 x8_1).f0)) ∧ w'.cell? ⟨gb116, 1, none⟩ = some (.int .i64 ((rd_T46 l0 x8_1).f1)) ∧ w'.cell? ⟨gb116, 2, none⟩ = some (.int .i64 ((rd_T46 l0 x8_1).f2)) ∧ w'.cell? ⟨gb116, 3, none⟩ = some (.slice A115_3 ((rd_T46 l0 x8_1).f3).length c115_3) ∧ w'.cell? ⟨gb116, 4, none⟩ = some (.int .i64 ((rd_T46 l0 x8_1).f4)) ∧ w'.cell? ⟨gb116, 5, none⟩ = some (.int .i64 ((rd_T46 l0 x8_1).f5))) (ds := [4]) #[false, false, false, false, false] (by kernel_rfl) rfl rfl ⟨(blk_cell BK114.out 0).trans rfl, (blk_cell BK114.out 1).trans rfl, (blk_cell BK114.out 2).trans rfl, (blk_cell BK114.out 3).trans rfl, (blk_cell BK114.out 4).trans rfl, (blk_cell BK114.out 5).trans rfl, (blk_cell BK114.out 6).trans rfl, (blk_cell BK116.out 0).trans rfl, (blk_cell BK116.out 1).trans rfl, (blk_cell BK116.out 2).trans rfl, (blk_cell BK116.out 3).trans rfl, (blk_cell BK116.out 4).trans rfl, (blk_cell BK116.out 5).trans rfl⟩ (fun hHeld => ?_)
      generalize w13.drew = w14 at BK113 BK114 BK116 HB hHeld ⊢
      refine take_ (i := 0) (N := some 12) (v := ?_) (a' := ?_) #[true, false, false, false, false] rfl rfl (by kernel_rfl) (fun _ _ _ h => h) (Or.inl ⟨by rfl, ?_⟩) hHeld ?_ ?_
      rotate_left
      ·rintro w' ⟨s0, s1, s2, s3, s4, s5, s6, s7, s8, s9, s10, s11, s12⟩
       go_simp
       with_reducible rfl
      rotate_left
      ·simp only [Act.put, List.setIfInBounds_toArray, List.set_cons_zero, List.set_cons_succ, i64_w, i32_w]
       rfl
      refine take_ (i := 1) (N := some 13) (v := ?_) (a' := ?_) #[true, true, false, false, false] rfl rfl (by kernel_rfl) (fun _ _ _ h => h) (Or.inl ⟨by rfl, ?_⟩) hHeld ?_ ?_
      rotate_left
      ·rintro w' ⟨s0, s1, s2, s3, s4, s5, s6, s7, s8, s9, s10, s11, s12⟩
       go_simp
       with_reducible rfl
      rotate_left
      ·simp only [Act.put, List.setIfInBounds_toArray, List.set_cons_zero, List.set_cons_succ, i64_w, i32_w]
       rfl
      refine one_ (i := 2) (N := some 14) #[true, true, true, false, false] rfl rfl (by kernel_rfl) (by decide) (fun K hK => ?_)
      refine goes_ Try.func28 (by kernel_rfl) rfl #[.agg #[.int .i64 ((rd_T46 l0 x8_1).f0), .int .i64 ((rd_T46 l0 x8_1).f1), .int .i64 ((rd_T46 l0 x8_1).f2), .slice A115_3 ((rd_T46 l0 x8_1).f3).length c115_3, .int .i64 ((rd_T46 l0 x8_1).f4), .int .i64 ((rd_T46 l0 x8_1).f5)]] (by rfl) rfl rfl (by (try simp only [List.map_toArray, List.map_cons, List.map_nil]); first | done | rfl | (simp only [List.length_drop, List.length_take]; rfl)) ?_
      with_reducible refine (event_one.calls ((rd_T46 l0 x8_1).f0) ((rd_T46 l0 x8_1).f1) ((rd_T46 l0 x8_1).f2) _ _ ((rd_T46 l0 x8_1).f3) ((rd_T46 l0 x8_1).f4) ((rd_T46 l0 x8_1).f5) t117 t118 t119 t120 t121 t122 t123 _ ?side1 ?side2 A7.out).mono ?_
      (case side1 => repeat (first | exact (Kd.C_below HR115_3.out HB.out) | (with_reducible refine Kd.C_alloc ?_ _) | (with_reducible refine Kd.C_drewN ?_ _) | (with_reducible refine Kd.C_drew ?_)))
      (case side2 => exact HC115_3.out)
      rintro e w15 ⟨rfl, hb⟩
      refine ⟨_, rfl, ?_⟩
      have n0_ := Aside0.mk (blk_below (g := gb113) (o := .cells #[.int .i64 0, .int .i64 0, .int .i64 0, .int .i64 0, .int .i64 0, .int .i64 0, .int .i64 0] 24 (0, 0)) (by (with_reducible repeat (first | refine blk_drewN ?_ _ | refine blk_drew ?_ | refine blk_alloc ?_ _)); exact BK113.out) hb)
      have n1_ := Aside0.mk (blk_below (g := gb114) (o := .cells #[.int .i64 x115000_1, .int .i64 x115001_1, .int .i64 x115002_1, .int .i64 x115003_1, .int .i64 x115004_1, .int .i64 x115005_1, .int .i64 x115006_1] 24 (0, 0)) (by (with_reducible repeat (first | refine blk_drewN ?_ _ | refine blk_drew ?_ | refine blk_alloc ?_ _)); exact BK114.out) hb)
      have n2_ := Aside0.mk (blk_below (g := gb116) (o := .cells #[.int .i64 ((rd_T46 l0 x8_1).f0), .int .i64 ((rd_T46 l0 x8_1).f1), .int .i64 ((rd_T46 l0 x8_1).f2), .slice A115_3 ((rd_T46 l0 x8_1).f3).length c115_3, .int .i64 ((rd_T46 l0 x8_1).f4), .int .i64 ((rd_T46 l0 x8_1).f5)] 46 (0, 0)) (by (with_reducible repeat (first | refine blk_drewN ?_ _ | refine blk_drew ?_ | refine blk_alloc ?_ _)); exact BK116.out) hb)
      have n3_ := Aside0.mk (below_step (by repeat (first | (with_reducible first | exact HB.out | apply below_alloc | apply pw_below_drewN | apply below_drew1 | refine below_set ?_ GE113.out | refine below_set ?_ GE114.out | refine below_set ?_ GE116.out) | exact HB.out)) hb)
      clear BK113
      clear BK114
      clear BK116
      clear HB
      have BK113 := n0_
      have BK114 := n1_
      have BK116 := n2_
      have HB := n3_
      clear n0_ n1_ n2_ n3_
      (try clear hb)
      (try clear hb2)
      (try clear hk)
      (try clear hi)
      refine hK.out _ _ ⟨(blk_cell BK114.out 0).trans rfl, (blk_cell BK114.out 1).trans rfl, (blk_cell BK114.out 2).trans rfl, (blk_cell BK114.out 3).trans rfl, (blk_cell BK114.out 4).trans rfl, (blk_cell BK114.out 5).trans rfl, (blk_cell BK114.out 6).trans rfl, (blk_cell BK116.out 0).trans rfl, (blk_cell BK116.out 1).trans rfl, (blk_cell BK116.out 2).trans rfl, (blk_cell BK116.out 3).trans rfl, (blk_cell BK116.out 4).trans rfl, (blk_cell BK116.out 5).trans rfl⟩ (fun hHeld => ?_)
      clear hK K
      refine norm_ (a' := ?_) ?_ ?_
      rotate_left
      ·show Act.put _ (some 14) _ = _
       simp only [Act.put, List.setIfInBounds_toArray, List.set_cons_zero, List.set_cons_succ, i64_w, i32_w]
       rfl
      refine one_ (i := 3) (N := some 15) #[true, true, true, true, false] rfl rfl (by kernel_rfl) (by decide) (fun K hK => ?_)
      refine goes_ Try.func13 (by kernel_rfl) rfl #[.agg #[.int .i64 x115000_1, .int .i64 x115001_1, .int .i64 x115002_1, .int .i64 x115003_1, .int .i64 x115004_1, .int .i64 x115005_1, .int .i64 x115006_1], .agg #[.int .i64 t117, .int .i64 t118, .int .i64 t119, .int .i64 t120, .int .i64 t121, .int .i64 t122, .int .i64 t123]] (by rfl) rfl rfl (by (try simp only [List.map_toArray, List.map_cons, List.map_nil]); first | done | rfl | (simp only [List.length_drop, List.length_take]; rfl)) ?_
      with_reducible refine (event_Add.calls x115000_1 x115001_1 x115002_1 x115003_1 x115004_1 x115005_1 x115006_1 t117 t118 t119 t120 t121 t122 t123 t124 t125 t126 t127 t128 t129 t130 _ A8.out).mono ?_
      rintro e w16 ⟨rfl, hb⟩
      refine ⟨_, rfl, ?_⟩
      have n0_ := Aside0.mk (blk_below (g := gb113) (o := .cells #[.int .i64 0, .int .i64 0, .int .i64 0, .int .i64 0, .int .i64 0, .int .i64 0, .int .i64 0] 24 (0, 0)) (by (with_reducible repeat (first | refine blk_drewN ?_ _ | refine blk_drew ?_ | refine blk_alloc ?_ _)); exact BK113.out) hb)
      have n1_ := Aside0.mk (blk_below (g := gb114) (o := .cells #[.int .i64 x115000_1, .int .i64 x115001_1, .int .i64 x115002_1, .int .i64 x115003_1, .int .i64 x115004_1, .int .i64 x115005_1, .int .i64 x115006_1] 24 (0, 0)) (by (with_reducible repeat (first | refine blk_drewN ?_ _ | refine blk_drew ?_ | refine blk_alloc ?_ _)); exact BK114.out) hb)
      have n2_ := Aside0.mk (blk_below (g := gb116) (o := .cells #[.int .i64 ((rd_T46 l0 x8_1).f0), .int .i64 ((rd_T46 l0 x8_1).f1), .int .i64 ((rd_T46 l0 x8_1).f2), .slice A115_3 ((rd_T46 l0 x8_1).f3).length c115_3, .int .i64 ((rd_T46 l0 x8_1).f4), .int .i64 ((rd_T46 l0 x8_1).f5)] 46 (0, 0)) (by (with_reducible repeat (first | refine blk_drewN ?_ _ | refine blk_drew ?_ | refine blk_alloc ?_ _)); exact BK116.out) hb)
      have n3_ := Aside0.mk (below_step (by repeat (first | (with_reducible first | exact HB.out | apply below_alloc | apply pw_below_drewN | apply below_drew1 | refine below_set ?_ GE113.out | refine below_set ?_ GE114.out | refine below_set ?_ GE116.out) | exact HB.out)) hb)
      clear BK113
      clear BK114
      clear BK116
      clear HB
      have BK113 := n0_
      have BK114 := n1_
      have BK116 := n2_
      have HB := n3_
      clear n0_ n1_ n2_ n3_
      (try clear hb)
      (try clear hb2)
      (try clear hk)
      (try clear hi)
      refine hK.out _ _ ⟨(blk_cell BK114.out 0).trans rfl, (blk_cell BK114.out 1).trans rfl, (blk_cell BK114.out 2).trans rfl, (blk_cell BK114.out 3).trans rfl, (blk_cell BK114.out 4).trans rfl, (blk_cell BK114.out 5).trans rfl, (blk_cell BK114.out 6).trans rfl, (blk_cell BK116.out 0).trans rfl, (blk_cell BK116.out 1).trans rfl, (blk_cell BK116.out 2).trans rfl, (blk_cell BK116.out 3).trans rfl, (blk_cell BK116.out 4).trans rfl, (blk_cell BK116.out 5).trans rfl⟩ (fun hHeld => ?_)
      clear hK K
      refine norm_ (a' := ?_) ?_ ?_
      rotate_left
      ·show Act.put _ (some 15) _ = _
       simp only [Act.put, List.setIfInBounds_toArray, List.set_cons_zero, List.set_cons_succ, i64_w, i32_w]
       rfl
      refine last_ (i := 4) (N := none) #[true, true, true, true, true] rfl rfl (by kernel_rfl) (by decide) (fun K hK => ?_)
      have hs17 : w16.cell? ⟨gb114, 0, none⟩ = some (.int .i64 x115000_1) := (blk_cell BK114.out 0).trans rfl
      have hfs17 := blk_frozen BK114.out 0
      have hns17_0 := NB113_114.out
      have hns17_2 := NB116_114.out
      have hms17_0 := NB114_113.out
      have hms17_2 := NB114_116.out
      have hs18 : w16.cell? ⟨gb114, 1, none⟩ = some (.int .i64 x115001_1) := (blk_cell BK114.out 1).trans rfl
      have hfs18 := blk_frozen BK114.out 1
      have hns18_0 := NB113_114.out
      have hns18_2 := NB116_114.out
      have hms18_0 := NB114_113.out
      have hms18_2 := NB114_116.out
      have hs19 : w16.cell? ⟨gb114, 2, none⟩ = some (.int .i64 x115002_1) := (blk_cell BK114.out 2).trans rfl
      have hfs19 := blk_frozen BK114.out 2
      have hns19_0 := NB113_114.out
      have hns19_2 := NB116_114.out
      have hms19_0 := NB114_113.out
      have hms19_2 := NB114_116.out
      have hs20 : w16.cell? ⟨gb114, 3, none⟩ = some (.int .i64 x115003_1) := (blk_cell BK114.out 3).trans rfl
      have hfs20 := blk_frozen BK114.out 3
      have hns20_0 := NB113_114.out
      have hns20_2 := NB116_114.out
      have hms20_0 := NB114_113.out
      have hms20_2 := NB114_116.out
      have hs21 : w16.cell? ⟨gb114, 4, none⟩ = some (.int .i64 x115004_1) := (blk_cell BK114.out 4).trans rfl
      have hfs21 := blk_frozen BK114.out 4
      have hns21_0 := NB113_114.out
      have hns21_2 := NB116_114.out
      have hms21_0 := NB114_113.out
      have hms21_2 := NB114_116.out
      have hs22 : w16.cell? ⟨gb114, 5, none⟩ = some (.int .i64 x115005_1) := (blk_cell BK114.out 5).trans rfl
      have hfs22 := blk_frozen BK114.out 5
      have hns22_0 := NB113_114.out
      have hns22_2 := NB116_114.out
      have hms22_0 := NB114_113.out
      have hms22_2 := NB114_116.out
      have hs23 : w16.cell? ⟨gb114, 6, none⟩ = some (.int .i64 x115006_1) := (blk_cell BK114.out 6).trans rfl
      have hfs23 := blk_frozen BK114.out 6
      have hns23_0 := NB113_114.out
      have hns23_2 := NB116_114.out
      have hms23_0 := NB114_113.out
      have hms23_2 := NB114_116.out
      refine skip_ (w1 := ?_) (by rfl) rfl ?_ ?_
      rotate_left
      ·go_simp
       rfl
      refine hK.out _ _ ?_
      clear hK K
      refine done_ (by kernel_rfl) ?_
      try go_wp2
      go_roundg k1
      case measure => have := HK1.out; omega
      case rel => exact ⟨(wrap64 (x8_1 + 1)), (t124), (t125), (t126), (t127), (t128), (t129), (t130), (by first | rfl | (simp; done) | (simp [*]; done)), H', ⟨by have := HK1.out; omega⟩, ⟨by (with_reducible repeat (first | refine blk_drewN ?_ _ | refine blk_drew ?_ | refine blk_alloc ?_ _)); refine blk_far ?_ NB113_114.out _; (with_reducible repeat (first | refine blk_drewN ?_ _ | refine blk_drew ?_ | refine blk_alloc ?_ _)); refine blk_far ?_ NB113_114.out _; (with_reducible repeat (first | refine blk_drewN ?_ _ | refine blk_drew ?_ | refine blk_alloc ?_ _)); refine blk_far ?_ NB113_114.out _; (with_reducible repeat (first | refine blk_drewN ?_ _ | refine blk_drew ?_ | refine blk_alloc ?_ _)); refine blk_far ?_ NB113_114.out _; (with_reducible repeat (first | refine blk_drewN ?_ _ | refine blk_drew ?_ | refine blk_alloc ?_ _)); refine blk_far ?_ NB113_114.out _; (with_reducible repeat (first | refine blk_drewN ?_ _ | refine blk_drew ?_ | refine blk_alloc ?_ _)); refine blk_far ?_ NB113_114.out _; (with_reducible repeat (first | refine blk_drewN ?_ _ | refine blk_drew ?_ | refine blk_alloc ?_ _)); refine blk_far ?_ NB113_114.out _; (with_reducible repeat (first | refine blk_drewN ?_ _ | refine blk_drew ?_ | refine blk_alloc ?_ _)); exact BK113.out⟩, ⟨by (with_reducible repeat (first | refine blk_drewN ?_ _ | refine blk_drew ?_ | refine blk_alloc ?_ _)); refine blk_put (cs := #[.int .i64 t124, .int .i64 t125, .int .i64 t126, .int .i64 t127, .int .i64 t128, .int .i64 t129, .int .i64 x115006_1]) ?_ 6 _ rfl; (with_reducible repeat (first | refine blk_drewN ?_ _ | refine blk_drew ?_ | refine blk_alloc ?_ _)); refine blk_put (cs := #[.int .i64 t124, .int .i64 t125, .int .i64 t126, .int .i64 t127, .int .i64 t128, .int .i64 x115005_1, .int .i64 x115006_1]) ?_ 5 _ rfl; (with_reducible repeat (first | refine blk_drewN ?_ _ | refine blk_drew ?_ | refine blk_alloc ?_ _)); refine blk_put (cs := #[.int .i64 t124, .int .i64 t125, .int .i64 t126, .int .i64 t127, .int .i64 x115004_1, .int .i64 x115005_1, .int .i64 x115006_1]) ?_ 4 _ rfl; (with_reducible repeat (first | refine blk_drewN ?_ _ | refine blk_drew ?_ | refine blk_alloc ?_ _)); refine blk_put (cs := #[.int .i64 t124, .int .i64 t125, .int .i64 t126, .int .i64 x115003_1, .int .i64 x115004_1, .int .i64 x115005_1, .int .i64 x115006_1]) ?_ 3 _ rfl; (with_reducible repeat (first | refine blk_drewN ?_ _ | refine blk_drew ?_ | refine blk_alloc ?_ _)); refine blk_put (cs := #[.int .i64 t124, .int .i64 t125, .int .i64 x115002_1, .int .i64 x115003_1, .int .i64 x115004_1, .int .i64 x115005_1, .int .i64 x115006_1]) ?_ 2 _ rfl; (with_reducible repeat (first | refine blk_drewN ?_ _ | refine blk_drew ?_ | refine blk_alloc ?_ _)); refine blk_put (cs := #[.int .i64 t124, .int .i64 x115001_1, .int .i64 x115002_1, .int .i64 x115003_1, .int .i64 x115004_1, .int .i64 x115005_1, .int .i64 x115006_1]) ?_ 1 _ rfl; (with_reducible repeat (first | refine blk_drewN ?_ _ | refine blk_drew ?_ | refine blk_alloc ?_ _)); refine blk_put (cs := #[.int .i64 x115000_1, .int .i64 x115001_1, .int .i64 x115002_1, .int .i64 x115003_1, .int .i64 x115004_1, .int .i64 x115005_1, .int .i64 x115006_1]) ?_ 0 _ rfl; (with_reducible repeat (first | refine blk_drewN ?_ _ | refine blk_drew ?_ | refine blk_alloc ?_ _)); exact BK114.out⟩, ⟨by repeat (first | (with_reducible first | exact HB.out | apply below_alloc | apply pw_below_drewN | apply below_drew1 | refine below_set ?_ GE113.out | refine below_set ?_ GE114.out | refine below_set ?_ GE116.out) | exact HB.out)⟩⟩
     ·rw [if_neg c6] at H
      exact absurd H (by simp)
    ·rw [if_neg c5] at H
     exact absurd H (by simp)
   ·rw [if_neg c4] at H
    have c4b0 : decide (x8_1 < (l0.length : Int)) = false := decide_eq_false c4
    clear c4
    simp only [Option.some.injEq, Prod.mk.injEq] at H
    obtain ⟨rfl, rfl, rfl, rfl, rfl, rfl, rfl⟩ := H
    have hnb24 := NB114_113.out
    have hnc24 := NB113_114.out
    have hcz25_0 : wr.cell? ⟨gb114, 0, none⟩ = some (.int .i64 x115000_1) := (blk_cell BK114.out 0).trans rfl
    have hcz25_1 : wr.cell? ⟨gb114, 1, none⟩ = some (.int .i64 x115001_1) := (blk_cell BK114.out 1).trans rfl
    have hcz25_2 : wr.cell? ⟨gb114, 2, none⟩ = some (.int .i64 x115002_1) := (blk_cell BK114.out 2).trans rfl
    have hcz25_3 : wr.cell? ⟨gb114, 3, none⟩ = some (.int .i64 x115003_1) := (blk_cell BK114.out 3).trans rfl
    have hcz25_4 : wr.cell? ⟨gb114, 4, none⟩ = some (.int .i64 x115004_1) := (blk_cell BK114.out 4).trans rfl
    have hcz25_5 : wr.cell? ⟨gb114, 5, none⟩ = some (.int .i64 x115005_1) := (blk_cell BK114.out 5).trans rfl
    have hcz25_6 : wr.cell? ⟨gb114, 6, none⟩ = some (.int .i64 x115006_1) := (blk_cell BK114.out 6).trans rfl
    have hfz25_0 := blk_frozen BK114.out 0
    have hfz25_1 := blk_frozen BK114.out 1
    have hfz25_2 := blk_frozen BK114.out 2
    have hfz25_3 := blk_frozen BK114.out 3
    have hfz25_4 := blk_frozen BK114.out 4
    have hfz25_5 := blk_frozen BK114.out 5
    have hfz25_6 := blk_frozen BK114.out 6
    have hcz26_0 : wr.cell? ⟨gb113, 0, none⟩ = some (.int .i64 0) := (blk_cell BK113.out 0).trans rfl
    have hcz26_1 : wr.cell? ⟨gb113, 1, none⟩ = some (.int .i64 0) := (blk_cell BK113.out 1).trans rfl
    have hcz26_2 : wr.cell? ⟨gb113, 2, none⟩ = some (.int .i64 0) := (blk_cell BK113.out 2).trans rfl
    have hcz26_3 : wr.cell? ⟨gb113, 3, none⟩ = some (.int .i64 0) := (blk_cell BK113.out 3).trans rfl
    have hcz26_4 : wr.cell? ⟨gb113, 4, none⟩ = some (.int .i64 0) := (blk_cell BK113.out 4).trans rfl
    have hcz26_5 : wr.cell? ⟨gb113, 5, none⟩ = some (.int .i64 0) := (blk_cell BK113.out 5).trans rfl
    have hcz26_6 : wr.cell? ⟨gb113, 6, none⟩ = some (.int .i64 0) := (blk_cell BK113.out 6).trans rfl
    have hfz26_0 := blk_frozen BK113.out 0
    have hfz26_1 := blk_frozen BK113.out 1
    have hfz26_2 := blk_frozen BK113.out 2
    have hfz26_3 := blk_frozen BK113.out 3
    have hfz26_4 := blk_frozen BK113.out 4
    have hfz26_5 := blk_frozen BK113.out 5
    have hfz26_6 := blk_frozen BK113.out 6
    go_wp2
    refine bodyPost_ret (results_cell_row rfl _ _ gb113 24 #[.int .i64 x115000_1, .int .i64 x115001_1, .int .i64 x115002_1, .int .i64 x115003_1, .int .i64 x115004_1, .int .i64 x115005_1, .int .i64 x115006_1] (0, 0) _ rfl (by (with_reducible repeat (first | refine blk_drewN ?_ _ | refine blk_drew ?_ | refine blk_alloc ?_ _)); refine blk_put (cs := #[.int .i64 x115000_1, .int .i64 x115001_1, .int .i64 x115002_1, .int .i64 x115003_1, .int .i64 x115004_1, .int .i64 x115005_1, .int .i64 0]) ?_ 6 _ rfl; (with_reducible repeat (first | refine blk_drewN ?_ _ | refine blk_drew ?_ | refine blk_alloc ?_ _)); refine blk_put (cs := #[.int .i64 x115000_1, .int .i64 x115001_1, .int .i64 x115002_1, .int .i64 x115003_1, .int .i64 x115004_1, .int .i64 0, .int .i64 0]) ?_ 5 _ rfl; (with_reducible repeat (first | refine blk_drewN ?_ _ | refine blk_drew ?_ | refine blk_alloc ?_ _)); refine blk_put (cs := #[.int .i64 x115000_1, .int .i64 x115001_1, .int .i64 x115002_1, .int .i64 x115003_1, .int .i64 0, .int .i64 0, .int .i64 0]) ?_ 4 _ rfl; (with_reducible repeat (first | refine blk_drewN ?_ _ | refine blk_drew ?_ | refine blk_alloc ?_ _)); refine blk_put (cs := #[.int .i64 x115000_1, .int .i64 x115001_1, .int .i64 x115002_1, .int .i64 0, .int .i64 0, .int .i64 0, .int .i64 0]) ?_ 3 _ rfl; (with_reducible repeat (first | refine blk_drewN ?_ _ | refine blk_drew ?_ | refine blk_alloc ?_ _)); refine blk_put (cs := #[.int .i64 x115000_1, .int .i64 x115001_1, .int .i64 0, .int .i64 0, .int .i64 0, .int .i64 0, .int .i64 0]) ?_ 2 _ rfl; (with_reducible repeat (first | refine blk_drewN ?_ _ | refine blk_drew ?_ | refine blk_alloc ?_ _)); refine blk_put (cs := #[.int .i64 x115000_1, .int .i64 0, .int .i64 0, .int .i64 0, .int .i64 0, .int .i64 0, .int .i64 0]) ?_ 1 _ rfl; (with_reducible repeat (first | refine blk_drewN ?_ _ | refine blk_drew ?_ | refine blk_alloc ?_ _)); refine blk_put (cs := #[.int .i64 0, .int .i64 0, .int .i64 0, .int .i64 0, .int .i64 0, .int .i64 0, .int .i64 0]) ?_ 0 _ rfl; (with_reducible repeat (first | refine blk_drewN ?_ _ | refine blk_drew ?_ | refine blk_alloc ?_ _)); exact BK113.out) Try.underlying24 rfl (by kernel_rfl)) rfl ?_
    exact ⟨by first | rfl | (simp [errW_none, errW_some] <;> rfl) | (simp [*, errW_none, errW_some] <;> rfl), by repeat (first | (with_reducible first | exact HB.out | apply below_alloc | apply pw_below_drewN | apply below_drew1 | refine below_set ?_ GE113.out | refine below_set ?_ GE114.out) | exact HB.out)⟩

/-! ### event_Covers: function 18 -/
def event_Covers.l0 : Nat → Int → Int → List (S46) → Int → Int → Option (Bool)
 | 0, _, _, _, _, _ => none
 | k + 1, x1, x5, x8, x9, x10 => if x10 < x9 then (if 0 ≤ x10 then (if x10 < (x8.length : Int) then (if ((rd_T46 x8 x10).f1) = x5 then (if ((rd_T46 x8 x10).f2) ≤ x5 then (some false) else (event_Covers.l0 k x1 ((rd_T46 x8 x10).f2) x8 x9 (wrap64 (x10 + 1)))) else (some false)) else (none)) else (none)) else (some (x5 == x1))
def event_Covers.f (k : Nat) (l0 : List (S46)) (a1 : Int) : Option (Bool) := event_Covers.l0 k a1 0 l0 (l0.length : Int) 0
theorem event_Covers.mono_l : ∀ k, (∀ y0 y1 y2 y3 y4, LeO (event_Covers.l0 k y0 y1 y2 y3 y4) (event_Covers.l0 (k + 1) y0 y1 y2 y3 y4))
 | 0 => fun _ _ _ _ _ r h => by simp [event_Covers.l0] at h
 | k + 1 => by
  have ih0 := event_Covers.mono_l k
  ·intro y0 y1 y2 y3 y4
   unfold event_Covers.l0
   repeat' first
   | (with_reducible exact ih0 _ _ _ _ _)
   | (with_reducible exact LeO.refl _)
   | (with_reducible exact LeO.none _)
   | (with_reducible refine LeO.ite ?_ ?_)
   | (with_reducible refine LeO.bind ?_ (fun _ => ?_))
   | exact ih0 _ _ _ _ _
   | exact LeO.none _
   | refine LeO.ite ?_ ?_
   | refine LeO.bind ?_ (fun _ => ?_)
theorem event_Covers.mono : ∀ a0 a1 k, LeO (event_Covers.f k a0 a1) (event_Covers.f (k + 1) a0 a1) := by
 intro a0 a1 k
 have ih0 := event_Covers.mono_l k
 unfold event_Covers.f
 repeat' first
   | (with_reducible exact ih0 _ _ _ _ _)
   | (with_reducible exact LeO.refl _)
   | (with_reducible exact LeO.none _)
   | (with_reducible refine LeO.ite ?_ ?_)
   | (with_reducible refine LeO.bind ?_ (fun _ => ?_))
   | exact ih0 _ _ _ _ _
   | exact LeO.none _
   | refine LeO.ite ?_ ?_
   | refine LeO.bind ?_ (fun _ => ?_)
set_option maxHeartbeats 8000000 in
set_option maxRecDepth 100000 in
theorem event_Covers.calls (k : Nat) (A0 : Option Addr) (c0 : Nat) (l0 : List (S46)) (a1 : Int) (r : Bool) (w : World) (hr0 : Kd.C k46 w A0 l0.length l0) (hc0 : l0.length ≤ c0) (h : event_Covers.f k l0 a1 = some r) :
  Calls Try.prog 18 #[.slice A0 l0.length c0, .int .i64 a1] w fun e w' => e = .returned (.bool r) ∧ Below w.heap.size w w' := by
 have hu46 := Try.underlying46
 have HR0 := Aside0.mk hr0
 have HC0 := Aside0.mk hc0
 clear hr0 hc0
 have HB := Aside0.mk (Below.refl w.heap.size w)
 have H : (event_Covers.l0 k a1 0 l0 (l0.length : Int) 0) = some r := h
 clear h
 have H' := Aside0.mk H
 clear H
 go_enter Try.func18, Try.ntmps18
 go_wp2
 go_loopg [5, 10] k (fun kq v5 v10 w' => ∃ (x5_1 : Int) (x10_1 : Int), v5 = .int .i64 x5_1 ∧ v10 = .int .i64 x10_1 ∧ Aside0 (event_Covers.l0 kq a1 x5_1 l0 (l0.length : Int) x10_1 = some r) ∧ Aside0 (kq ≤ k) ∧ Aside0 (Below w.heap.size w w'))
 case atStart => exact ⟨(0), (0), (by first | rfl | (simp; done) | (simp [*]; done)), (by first | rfl | (simp; done) | (simp [*]; done)), H', ⟨Nat.le_refl _⟩, ⟨by repeat (first | (with_reducible first | exact HB.out | apply below_alloc | apply pw_below_drewN | apply below_drew1) | exact HB.out)⟩⟩
 case round =>
  clear H'
  try clear c1
  try clear p2
  obtain ⟨x5_1, x10_1, rfl, rfl, HA, HK1, HB⟩ := hrel
  cases gk with
  | zero => exact absurd HA.out (by simp [event_Covers.l0])
  | succ k1 =>
   have H := HA.out
   clear HA
   simp only [event_Covers.l0] at H
   by_cases c3 : x10_1 < (l0.length : Int)
   ·rw [if_pos c3] at H
    have c3b0 : decide (x10_1 < (l0.length : Int)) = true := decide_eq_true c3
    clear c3
    by_cases c4 : 0 ≤ x10_1
    ·rw [if_pos c4] at H
     have c4b0 : decide (0 ≤ x10_1) = true := decide_eq_true c4
     clear c4
     by_cases c5 : x10_1 < (l0.length : Int)
     ·rw [if_pos c5] at H
      have c5b0 : decide (x10_1 < (l0.length : Int)) = true := decide_eq_true c5
      clear c5
      by_cases c6 : ((rd_T46 l0 x10_1).f1) = x5_1
      ·rw [if_pos c6] at H
       have c6b0 : (((rd_T46 l0 x10_1).f1) == x5_1) = true := beq_iff_eq.mpr c6
       have c6b1 : (((rd_T46 l0 x10_1).f1) != x5_1) = false := bne_eq_false_iff_eq.mpr c6
       clear c6
       by_cases c7 : ((rd_T46 l0 x10_1).f2) ≤ x5_1
       ·rw [if_pos c7] at H
        have c7b0 : decide (((rd_T46 l0 x10_1).f2) ≤ x5_1) = true := decide_eq_true c7
        clear c7
        obtain rfl := Option.some.inj H
        have p131 : 0 ≤ (x10_1 : Int) := of_decide_eq_true (by first | (with_reducible assumption) | assumption)
        have q131 : x10_1 < (l0.length : Int) := of_decide_eq_true (by first | (with_reducible assumption) | assumption)
        obtain ⟨ad131, A131_3, c131_3, e131, hx131_0, hx131_1, hx131_2, hx131_3, hx131_4, hx131_5, hl131_3, hi131_3⟩ := at_T46 HR0.out x10_1 p131 q131
        cases e131
        replace hx131_0 := (HB.out.cell (World.block_lt_of_cell? w _ hx131_0)).trans hx131_0
        replace hx131_1 := (HB.out.cell (World.block_lt_of_cell? w _ hx131_1)).trans hx131_1
        replace hx131_2 := (HB.out.cell (World.block_lt_of_cell? w _ hx131_2)).trans hx131_2
        replace hx131_3 := (HB.out.cell (World.block_lt_of_cell? w _ hx131_3)).trans hx131_3
        replace hx131_4 := (HB.out.cell (World.block_lt_of_cell? w _ hx131_4)).trans hx131_4
        replace hx131_5 := (HB.out.cell (World.block_lt_of_cell? w _ hx131_5)).trans hx131_5
        have HR131_3 := Aside0.mk hi131_3
        have HC131_3 := Aside0.mk hl131_3
        clear hi131_3 hl131_3
        replace p131 := eq_true p131
        replace q131 := eq_true q131
        go_wp2_with (first | ((with_reducible refine gate_dst (N := 7) rfl ?_); refine box_event ?hg (N := 7) ?hd (cs := #[.int .i64 0, .int .i64 0, .int .i64 0, .slice none 0 0, .int .i64 0, .int .i64 0]) (t := 46) ?hr ?_; (case hd => rfl); (case hg => rfl); (case hr => first | (go_simp; done) | (go_simp; rfl)); intro gb132 hg w8 hbox hb; have n0_ := Aside0.mk (below_step (by repeat (first | (with_reducible first | exact HB.out | apply below_alloc | apply pw_below_drewN | apply below_drew1) | exact HB.out)) hb); have n1_ := Aside0.mk (hbox); have n2_ := Aside0.mk ((by rw [hg]; exact (below_size (by repeat (first | (with_reducible first | exact HB.out | apply below_alloc | apply pw_below_drewN | apply below_drew1) | exact HB.out))) : w.heap.size ≤ gb132)); have n3_ := Aside0.mk ((by rw [hg]; exact (below_size (by repeat (first | (with_reducible first | exact HB.out | apply below_alloc | apply pw_below_drewN | apply below_drew1) | exact HB.out))) : w.heap.size ≤ gb132)); clear HB; have HB := n0_; have BK132 := n1_; have GW132 := n2_; have GE132 := n3_; clear n0_ n1_ n2_ n3_; clear hb hbox hg; have hcz9_0 : w8.cell? ⟨gb132, 0, none⟩ = some (.int .i64 0) := (blk_cell BK132.out 0).trans rfl; have hcz9_1 : w8.cell? ⟨gb132, 1, none⟩ = some (.int .i64 0) := (blk_cell BK132.out 1).trans rfl; have hcz9_2 : w8.cell? ⟨gb132, 2, none⟩ = some (.int .i64 0) := (blk_cell BK132.out 2).trans rfl; have hcz9_3 : w8.cell? ⟨gb132, 3, none⟩ = some (.slice none 0 0) := (blk_cell BK132.out 3).trans rfl; have hcz9_4 : w8.cell? ⟨gb132, 4, none⟩ = some (.int .i64 0) := (blk_cell BK132.out 4).trans rfl; have hcz9_5 : w8.cell? ⟨gb132, 5, none⟩ = some (.int .i64 0) := (blk_cell BK132.out 5).trans rfl; have hfz9_0 := blk_frozen BK132.out 0; have hfz9_1 := blk_frozen BK132.out 1; have hfz9_2 := blk_frozen BK132.out 2; have hfz9_3 := blk_frozen BK132.out 3; have hfz9_4 := blk_frozen BK132.out 4; have hfz9_5 := blk_frozen BK132.out 5))
        go_ret
        exact ⟨by first | rfl | (simp [errW_none, errW_some] <;> rfl) | (simp [*, errW_none, errW_some] <;> rfl), by repeat (first | (with_reducible first | exact HB.out | apply below_alloc | apply pw_below_drewN | apply below_drew1 | refine below_set ?_ GE132.out) | exact HB.out)⟩
       ·rw [if_neg c7] at H
        have c7b0 : decide (((rd_T46 l0 x10_1).f2) ≤ x5_1) = false := decide_eq_false c7
        clear c7
        have H' := Aside0.mk H
        clear H
        have p131 : 0 ≤ (x10_1 : Int) := of_decide_eq_true (by first | (with_reducible assumption) | assumption)
        have q131 : x10_1 < (l0.length : Int) := of_decide_eq_true (by first | (with_reducible assumption) | assumption)
        obtain ⟨ad131, A131_3, c131_3, e131, hx131_0, hx131_1, hx131_2, hx131_3, hx131_4, hx131_5, hl131_3, hi131_3⟩ := at_T46 HR0.out x10_1 p131 q131
        cases e131
        replace hx131_0 := (HB.out.cell (World.block_lt_of_cell? w _ hx131_0)).trans hx131_0
        replace hx131_1 := (HB.out.cell (World.block_lt_of_cell? w _ hx131_1)).trans hx131_1
        replace hx131_2 := (HB.out.cell (World.block_lt_of_cell? w _ hx131_2)).trans hx131_2
        replace hx131_3 := (HB.out.cell (World.block_lt_of_cell? w _ hx131_3)).trans hx131_3
        replace hx131_4 := (HB.out.cell (World.block_lt_of_cell? w _ hx131_4)).trans hx131_4
        replace hx131_5 := (HB.out.cell (World.block_lt_of_cell? w _ hx131_5)).trans hx131_5
        have HR131_3 := Aside0.mk hi131_3
        have HC131_3 := Aside0.mk hl131_3
        clear hi131_3 hl131_3
        replace p131 := eq_true p131
        replace q131 := eq_true q131
        go_wp2_with (first | ((with_reducible refine gate_dst (N := 7) rfl ?_); refine box_event ?hg (N := 7) ?hd (cs := #[.int .i64 0, .int .i64 0, .int .i64 0, .slice none 0 0, .int .i64 0, .int .i64 0]) (t := 46) ?hr ?_; (case hd => rfl); (case hg => rfl); (case hr => first | (go_simp; done) | (go_simp; rfl)); intro gb132 hg w10 hbox hb; have n0_ := Aside0.mk (below_step (by repeat (first | (with_reducible first | exact HB.out | apply below_alloc | apply pw_below_drewN | apply below_drew1) | exact HB.out)) hb); have n1_ := Aside0.mk (hbox); have n2_ := Aside0.mk ((by rw [hg]; exact (below_size (by repeat (first | (with_reducible first | exact HB.out | apply below_alloc | apply pw_below_drewN | apply below_drew1) | exact HB.out))) : w.heap.size ≤ gb132)); have n3_ := Aside0.mk ((by rw [hg]; exact (below_size (by repeat (first | (with_reducible first | exact HB.out | apply below_alloc | apply pw_below_drewN | apply below_drew1) | exact HB.out))) : w.heap.size ≤ gb132)); clear HB; have HB := n0_; have BK132 := n1_; have GW132 := n2_; have GE132 := n3_; clear n0_ n1_ n2_ n3_; clear hb hbox hg; have hcz11_0 : w10.cell? ⟨gb132, 0, none⟩ = some (.int .i64 0) := (blk_cell BK132.out 0).trans rfl; have hcz11_1 : w10.cell? ⟨gb132, 1, none⟩ = some (.int .i64 0) := (blk_cell BK132.out 1).trans rfl; have hcz11_2 : w10.cell? ⟨gb132, 2, none⟩ = some (.int .i64 0) := (blk_cell BK132.out 2).trans rfl; have hcz11_3 : w10.cell? ⟨gb132, 3, none⟩ = some (.slice none 0 0) := (blk_cell BK132.out 3).trans rfl; have hcz11_4 : w10.cell? ⟨gb132, 4, none⟩ = some (.int .i64 0) := (blk_cell BK132.out 4).trans rfl; have hcz11_5 : w10.cell? ⟨gb132, 5, none⟩ = some (.int .i64 0) := (blk_cell BK132.out 5).trans rfl; have hfz11_0 := blk_frozen BK132.out 0; have hfz11_1 := blk_frozen BK132.out 1; have hfz11_2 := blk_frozen BK132.out 2; have hfz11_3 := blk_frozen BK132.out 3; have hfz11_4 := blk_frozen BK132.out 4; have hfz11_5 := blk_frozen BK132.out 5))
        go_roundg k1
        case measure => have := HK1.out; omega
        case rel => exact ⟨((rd_T46 l0 x10_1).f2), (wrap64 (x10_1 + 1)), (by first | rfl | (simp; done) | (simp [*]; done)), (by first | rfl | (simp; done) | (simp [*]; done)), H', ⟨by have := HK1.out; omega⟩, ⟨by repeat (first | (with_reducible first | exact HB.out | apply below_alloc | apply pw_below_drewN | apply below_drew1 | refine below_set ?_ GE132.out) | exact HB.out)⟩⟩
      ·rw [if_neg c6] at H
       have c6b0 : (((rd_T46 l0 x10_1).f1) == x5_1) = false := beq_eq_false_iff_ne.mpr c6
       have c6b1 : (((rd_T46 l0 x10_1).f1) != x5_1) = true := bne_iff_ne.mpr c6
       obtain rfl := Option.some.inj H
       have p131 : 0 ≤ (x10_1 : Int) := of_decide_eq_true (by first | (with_reducible assumption) | assumption)
       have q131 : x10_1 < (l0.length : Int) := of_decide_eq_true (by first | (with_reducible assumption) | assumption)
       obtain ⟨ad131, A131_3, c131_3, e131, hx131_0, hx131_1, hx131_2, hx131_3, hx131_4, hx131_5, hl131_3, hi131_3⟩ := at_T46 HR0.out x10_1 p131 q131
       cases e131
       replace hx131_0 := (HB.out.cell (World.block_lt_of_cell? w _ hx131_0)).trans hx131_0
       replace hx131_1 := (HB.out.cell (World.block_lt_of_cell? w _ hx131_1)).trans hx131_1
       replace hx131_2 := (HB.out.cell (World.block_lt_of_cell? w _ hx131_2)).trans hx131_2
       replace hx131_3 := (HB.out.cell (World.block_lt_of_cell? w _ hx131_3)).trans hx131_3
       replace hx131_4 := (HB.out.cell (World.block_lt_of_cell? w _ hx131_4)).trans hx131_4
       replace hx131_5 := (HB.out.cell (World.block_lt_of_cell? w _ hx131_5)).trans hx131_5
       have HR131_3 := Aside0.mk hi131_3
       have HC131_3 := Aside0.mk hl131_3
       clear hi131_3 hl131_3
       replace p131 := eq_true p131
       replace q131 := eq_true q131
       go_wp2_with (first | ((with_reducible refine gate_dst (N := 7) rfl ?_); refine box_event ?hg (N := 7) ?hd (cs := #[.int .i64 0, .int .i64 0, .int .i64 0, .slice none 0 0, .int .i64 0, .int .i64 0]) (t := 46) ?hr ?_; (case hd => rfl); (case hg => rfl); (case hr => first | (go_simp; done) | (go_simp; rfl)); intro gb132 hg w12 hbox hb; have n0_ := Aside0.mk (below_step (by repeat (first | (with_reducible first | exact HB.out | apply below_alloc | apply pw_below_drewN | apply below_drew1) | exact HB.out)) hb); have n1_ := Aside0.mk (hbox); have n2_ := Aside0.mk ((by rw [hg]; exact (below_size (by repeat (first | (with_reducible first | exact HB.out | apply below_alloc | apply pw_below_drewN | apply below_drew1) | exact HB.out))) : w.heap.size ≤ gb132)); have n3_ := Aside0.mk ((by rw [hg]; exact (below_size (by repeat (first | (with_reducible first | exact HB.out | apply below_alloc | apply pw_below_drewN | apply below_drew1) | exact HB.out))) : w.heap.size ≤ gb132)); clear HB; have HB := n0_; have BK132 := n1_; have GW132 := n2_; have GE132 := n3_; clear n0_ n1_ n2_ n3_; clear hb hbox hg; have hcz13_0 : w12.cell? ⟨gb132, 0, none⟩ = some (.int .i64 0) := (blk_cell BK132.out 0).trans rfl; have hcz13_1 : w12.cell? ⟨gb132, 1, none⟩ = some (.int .i64 0) := (blk_cell BK132.out 1).trans rfl; have hcz13_2 : w12.cell? ⟨gb132, 2, none⟩ = some (.int .i64 0) := (blk_cell BK132.out 2).trans rfl; have hcz13_3 : w12.cell? ⟨gb132, 3, none⟩ = some (.slice none 0 0) := (blk_cell BK132.out 3).trans rfl; have hcz13_4 : w12.cell? ⟨gb132, 4, none⟩ = some (.int .i64 0) := (blk_cell BK132.out 4).trans rfl; have hcz13_5 : w12.cell? ⟨gb132, 5, none⟩ = some (.int .i64 0) := (blk_cell BK132.out 5).trans rfl; have hfz13_0 := blk_frozen BK132.out 0; have hfz13_1 := blk_frozen BK132.out 1; have hfz13_2 := blk_frozen BK132.out 2; have hfz13_3 := blk_frozen BK132.out 3; have hfz13_4 := blk_frozen BK132.out 4; have hfz13_5 := blk_frozen BK132.out 5))
       go_ret
       exact ⟨by first | rfl | (simp [errW_none, errW_some] <;> rfl) | (simp [*, errW_none, errW_some] <;> rfl), by repeat (first | (with_reducible first | exact HB.out | apply below_alloc | apply pw_below_drewN | apply below_drew1 | refine below_set ?_ GE132.out) | exact HB.out)⟩
     ·rw [if_neg c5] at H
      exact absurd H (by simp)
    ·rw [if_neg c4] at H
     exact absurd H (by simp)
   ·rw [if_neg c3] at H
    have c3b0 : decide (x10_1 < (l0.length : Int)) = false := decide_eq_false c3
    clear c3
    obtain rfl := Option.some.inj H
    go_wp2
    go_ret
    exact ⟨by first | rfl | (simp [errW_none, errW_some] <;> rfl) | (simp [*, errW_none, errW_some] <;> rfl), by repeat (first | (with_reducible first | exact HB.out | apply below_alloc | apply pw_below_drewN | apply below_drew1) | exact HB.out)⟩

/-! ### forebaylaw21_awake: function 10 -/
def forebaylaw21_awake.f (k : Nat)  : Option (Bool) := (some (([(⟨1, 0, 6, (([(⟨(⟨#[]⟩ : ByteArray), 0, ([] : List (S39)), 0, ([] : List (S41)), 0⟩ : S36)] : List (S36))), 0, 0⟩ : S46), (⟨2, 6, 9, ([] : List (S36)), 15, 6⟩ : S46), (⟨3, 9, 10, ([] : List (S36)), 0, 0⟩ : S46)] : List (S46)) : List (S46))).bind fun y136 => ((event_Count.f k y136).bind fun bt139 => (if (bt139.1 == 1 && (bt139.2.1 == 1 && (bt139.2.2.1 == 6 && (bt139.2.2.2.1 == 1 && (bt139.2.2.2.2.1 == 3 && (bt139.2.2.2.2.2.1 == 1 && (bt139.2.2.2.2.2.2 == 1))))))) = true then ((event_Covers.f k y136 10).bind fun t146 => (if t146 = true then ((event_Covers.f k y136 9).bind fun t147 => (some (!t147))) else (some false))) else (some false)))
theorem forebaylaw21_awake.mono : ∀ k, LeO (forebaylaw21_awake.f k ) (forebaylaw21_awake.f (k + 1) ) := by
 intro  k
 unfold forebaylaw21_awake.f
 repeat' first
   | (with_reducible exact event_Count.mono _ _)
   | (with_reducible exact event_Covers.mono _ _ _)
   | (with_reducible exact LeO.refl _)
   | (with_reducible exact LeO.none _)
   | (with_reducible refine LeO.ite ?_ ?_)
   | (with_reducible refine LeO.bind ?_ (fun _ => ?_))
   | exact event_Count.mono _ _
   | exact event_Covers.mono _ _ _
   | exact LeO.none _
   | refine LeO.ite ?_ ?_
   | refine LeO.bind ?_ (fun _ => ?_)
set_option maxHeartbeats 8000000 in
set_option maxRecDepth 100000 in
theorem forebaylaw21_awake.calls (k : Nat)  (r : Bool) (w : World) (h : forebaylaw21_awake.f k  = some r) :
  Calls Try.prog 10 #[] w fun e w' => e = .returned (.bool r) ∧ Below w.heap.size w w' := by
 have hu36 := Try.underlying36
 have hu46 := Try.underlying46
 have hu24 := Try.underlying24
 have HB := Aside0.mk (Below.refl w.heap.size w)
 have H : ((some (([(⟨1, 0, 6, (([(⟨(⟨#[]⟩ : ByteArray), 0, ([] : List (S39)), 0, ([] : List (S41)), 0⟩ : S36)] : List (S36))), 0, 0⟩ : S46), (⟨2, 6, 9, ([] : List (S36)), 15, 6⟩ : S46), (⟨3, 9, 10, ([] : List (S36)), 0, 0⟩ : S46)] : List (S46)) : List (S46))).bind fun y136 => ((event_Count.f k y136).bind fun bt139 => (if (bt139.1 == 1 && (bt139.2.1 == 1 && (bt139.2.2.1 == 6 && (bt139.2.2.2.1 == 1 && (bt139.2.2.2.2.1 == 3 && (bt139.2.2.2.2.2.1 == 1 && (bt139.2.2.2.2.2.2 == 1))))))) = true then ((event_Covers.f k y136 10).bind fun t146 => (if t146 = true then ((event_Covers.f k y136 9).bind fun t147 => (some (!t147))) else (some false))) else (some false)))) = some r := h
 clear h
 obtain ⟨y133, hy133⟩ : ∃ y_ : List (S36), y_ = (([(⟨(⟨#[]⟩ : ByteArray), 0, ([] : List (S39)), 0, ([] : List (S41)), 0⟩ : S36)] : List (S36))) := ⟨_, rfl⟩
 replace H : ((some (([(⟨1, 0, 6, y133, 0, 0⟩ : S46), (⟨2, 6, 9, ([] : List (S36)), 15, 6⟩ : S46), (⟨3, 9, 10, ([] : List (S36)), 0, 0⟩ : S46)] : List (S46)) : List (S46))).bind fun y136 => ((event_Count.f k y136).bind fun bt139 => (if (bt139.1 == 1 && (bt139.2.1 == 1 && (bt139.2.2.1 == 6 && (bt139.2.2.2.1 == 1 && (bt139.2.2.2.2.1 == 3 && (bt139.2.2.2.2.2.1 == 1 && (bt139.2.2.2.2.2.2 == 1))))))) = true then ((event_Covers.f k y136 10).bind fun t146 => (if t146 = true then ((event_Covers.f k y136 9).bind fun t147 => (some (!t147))) else (some false))) else (some false)))) = some r := by first | (rw [hy133]; with_reducible exact H) | (have H2_ := (Option.bind_some _ _).symm.trans H; rw [hy133]; with_reducible exact H2_) | (have H2_ := (Option.bind_some _ _).symm.trans H; with_reducible exact H2_) | with_reducible exact H | (rw [hy133]; exact H) | exact H
 have Ny133 := Aside0.mk hy133
 clear hy133
 obtain ⟨y136, hy136⟩ : ∃ y_ : List (S46), y_ = (([(⟨1, 0, 6, y133, 0, 0⟩ : S46), (⟨2, 6, 9, ([] : List (S36)), 15, 6⟩ : S46), (⟨3, 9, 10, ([] : List (S36)), 0, 0⟩ : S46)] : List (S46))) := ⟨_, rfl⟩
 replace H : ((event_Count.f k y136).bind fun bt139 => (if (bt139.1 == 1 && (bt139.2.1 == 1 && (bt139.2.2.1 == 6 && (bt139.2.2.2.1 == 1 && (bt139.2.2.2.2.1 == 3 && (bt139.2.2.2.2.2.1 == 1 && (bt139.2.2.2.2.2.2 == 1))))))) = true then ((event_Covers.f k y136 10).bind fun t146 => (if t146 = true then ((event_Covers.f k y136 9).bind fun t147 => (some (!t147))) else (some false))) else (some false))) = some r := by first | (rw [hy136]; with_reducible exact H) | (have H2_ := (Option.bind_some _ _).symm.trans H; rw [hy136]; with_reducible exact H2_) | (have H2_ := (Option.bind_some _ _).symm.trans H; with_reducible exact H2_) | with_reducible exact H | (rw [hy136]; exact H) | exact H
 have Ny136 := Aside0.mk hy136
 clear hy136
 replace H := Option.bind_eq_some_iff.mp H
 obtain ⟨⟨t139, t140, t141, t142, t143, t144, t145⟩, A10, H⟩ := H
 replace H : (if (t139 == 1 && (t140 == 1 && (t141 == 6 && (t142 == 1 && (t143 == 3 && (t144 == 1 && (t145 == 1))))))) = true then ((event_Covers.f k y136 10).bind fun t146 => (if t146 = true then ((event_Covers.f k y136 9).bind fun t147 => (some (!t147))) else (some false))) else (some false)) = some r := H
 have A1 := Aside0.mk A10
 clear A10
 by_cases c2 : (t139 == 1 && (t140 == 1 && (t141 == 6 && (t142 == 1 && (t143 == 3 && (t144 == 1 && (t145 == 1))))))) = true
 ·rw [if_pos c2] at H
  have c2b0 : (t139 == 1 && (t140 == 1 && (t141 == 6 && (t142 == 1 && (t143 == 3 && (t144 == 1 && (t145 == 1))))))) = true := c2
  (try (have c2b1 : decide (t139 = 1 && (t140 == 1 && (t141 == 6 && (t142 == 1 && (t143 == 3 && (t144 == 1 && (t145 == 1))))))) = true := by simpa using c2))
  (try (have c2b2 : (t139 == 1 && (t140 == 1 && (t141 == 6 && (t142 == 1 && (t143 == 3 && (t144 == 1 && (t145 == 1))))))) = true := by simpa using c2))
  clear c2
  replace H := Option.bind_eq_some_iff.mp H
  obtain ⟨t146, A30, H⟩ := H
  replace H : (if t146 = true then ((event_Covers.f k y136 9).bind fun t147 => (some (!t147))) else (some false)) = some r := H
  have A3 := Aside0.mk A30
  clear A30
  by_cases c4 : t146 = true
  ·subst c4
   have H1 : ((event_Covers.f k y136 9).bind fun t147 => (some (!t147))) = some r := by rw [if_pos rfl] at H; exact H
   clear H
   have H := H1
   clear H1
   replace H := Option.bind_eq_some_iff.mp H
   obtain ⟨t147, A50, H⟩ := H
   replace H : (some (!t147)) = some r := H
   have A5 := Aside0.mk A50
   clear A50
   obtain rfl := Option.some.inj H
   go_enter Try.func10, Try.ntmps10
   go_wp2_with (first | ((with_reducible refine gate_dst (N := 3) rfl ?_); refine Kd.N_lit k36 _ 36 ?hg (N' := 3) ?hd (xs := ([(⟨(⟨#[]⟩ : ByteArray), 0, ([] : List (S39)), 0, ([] : List (S41)), 0⟩ : S36)] : List (S36))) (inner := [.string (⟨#[]⟩ : ByteArray), .int .i64 0, .slice none 0 0, .int .i64 0, .slice none 0 0, .int .i64 0]) (ok := (fun _ => True)) (okp := (fun _ => True)) ?hr ?hp (fun _ hk => hk) ((show ∀ k_, w.heap.size ≤ k_ → (fun _ => True) k_ from fun k_ hk => trivial) _ (Nat.le_refl _)) (Below.refl _ _) (Nat.le_refl _) (by simp) ?_; (case hd => rfl); (case hg => rfl); (case hr => first | (go_simp; done) | (go_simp; rfl)); (case hp => exact (Reps.c6 (show Kd.FK k36 _ _ (⟨(⟨#[]⟩ : ByteArray), 0, ([] : List (S39)), 0, ([] : List (S41)), 0⟩ : S36) [.string (⟨#[]⟩ : ByteArray), .int .i64 0, .slice none 0 0, .int .i64 0, .slice none 0 0, .int .i64 0] from (k36_mkF _ _ (⟨(⟨#[]⟩ : ByteArray), 0, ([] : List (S39)), 0, ([] : List (S41)), 0⟩ : S36) (Nat.le_refl _) (Kd.F_nil _ _ _) (Nat.le_refl _) (Kd.F_nil _ _ _))) (Reps.none _ _))); intro v134 w6 ho7 hb hg_ hnew_; clear hg_ hnew_; (first | rw [← Ny133.out] at ho7 | (simp only [Int.reduceToNat] at ho7; rw [← Ny133.out] at ho7)); have n0_ := Aside0.mk (Kd.N_lower ho7 (below_size (by repeat (first | (with_reducible first | exact HB.out | apply below_alloc | apply pw_below_drewN | apply below_drew1) | exact HB.out)))); have n1_ := Aside0.mk (below_step (by repeat (first | (with_reducible first | exact HB.out | apply below_alloc | apply pw_below_drewN | apply below_drew1) | exact HB.out)) hb); clear HB; have HO135 := n0_; have HB := n1_; clear n0_ n1_; clear hb ho7; obtain ⟨Ao8, co8, eo8⟩ := Kd.N_slice HO135.out; subst eo8) | ((with_reducible refine gate_dst (N := 7) rfl ?_); refine Kd.N_lit k46 _ 46 ?hg (N' := 7) ?hd (xs := ([(⟨1, 0, 6, y133, 0, 0⟩ : S46), (⟨2, 6, 9, ([] : List (S36)), 15, 6⟩ : S46), (⟨3, 9, 10, ([] : List (S36)), 0, 0⟩ : S46)] : List (S46))) (inner := [.int .i64 1, .int .i64 0, .int .i64 6, .slice Ao8 y133.length co8, .int .i64 0, .int .i64 0, .int .i64 2, .int .i64 6, .int .i64 9, .slice none 0 0, .int .i64 15, .int .i64 6, .int .i64 3, .int .i64 9, .int .i64 10, .slice none 0 0, .int .i64 0, .int .i64 0]) (ok := (fun _ => True)) (okp := (fun _ => True)) ?hr ?hp (fun _ hk => hk) ((show ∀ k_, w6.heap.size ≤ k_ → (fun _ => True) k_ from fun k_ hk => trivial) _ (Nat.le_refl _)) (Below.refl _ _) (Nat.le_refl _) (by simp) ?_; (case hd => rfl); (case hg => rfl); (case hr => first | (go_simp; done) | (go_simp; rfl)); (case hp => exact (Reps.c6 (show Kd.FK k46 _ _ (⟨1, 0, 6, y133, 0, 0⟩ : S46) [.int .i64 1, .int .i64 0, .int .i64 6, .slice Ao8 y133.length co8, .int .i64 0, .int .i64 0] from (k46_mkF _ _ (⟨1, 0, 6, y133, 0, 0⟩ : S46) (Kd.N_reads' (Kd.N_mono (ok' := (fun _ => True)) (HO135.out) (fun k_ hk => trivial))).2.1 (Kd.N_F (Kd.N_mono (ok' := (fun _ => True)) (HO135.out) (fun k_ hk => trivial))))) (Reps.c6 (show Kd.FK k46 _ _ (⟨2, 6, 9, ([] : List (S36)), 15, 6⟩ : S46) [.int .i64 2, .int .i64 6, .int .i64 9, .slice none 0 0, .int .i64 15, .int .i64 6] from (k46_mkF _ _ (⟨2, 6, 9, ([] : List (S36)), 15, 6⟩ : S46) (Nat.le_refl _) (Kd.F_nil _ _ _))) (Reps.c6 (show Kd.FK k46 _ _ (⟨3, 9, 10, ([] : List (S36)), 0, 0⟩ : S46) [.int .i64 3, .int .i64 9, .int .i64 10, .slice none 0 0, .int .i64 0, .int .i64 0] from (k46_mkF _ _ (⟨3, 9, 10, ([] : List (S36)), 0, 0⟩ : S46) (Nat.le_refl _) (Kd.F_nil _ _ _))) (Reps.none _ _))))); intro v137 w9 ho10 hb hg_ hnew_; clear hg_ hnew_; (first | rw [← Ny136.out] at ho10 | (simp only [Int.reduceToNat] at ho10; rw [← Ny136.out] at ho10)); have n0_ := Aside0.mk (Kd.N_lower ho10 (below_size (by repeat (first | (with_reducible first | exact HB.out | apply below_alloc | apply pw_below_drewN | apply below_drew1) | exact HB.out)))); have n1_ := Aside0.mk (below_step (by repeat (first | (with_reducible first | exact HB.out | apply below_alloc | apply pw_below_drewN | apply below_drew1) | exact HB.out)) hb); clear HB; clear HO135; have HO138 := n0_; have HB := n1_; clear n0_ n1_; clear hb ho10; obtain ⟨Ao11, co11, eo11⟩ := Kd.N_slice HO138.out; subst eo11) | ((with_reducible refine gate_callee (f := 11) rfl ?_); refine goesL_ (some 9) rfl rfl Try.func11 (by kernel_rfl) rfl #[.slice Ao11 y136.length co11] rfl (by (try simp only [List.map_toArray, List.map_cons, List.map_nil]); first | done | rfl | (simp only [List.length_drop, List.length_take]; rfl)) ?_; (with_reducible refine (event_Count.calls k _ _ y136 t139 t140 t141 t142 t143 t144 t145 _ ?side1 ?side2 A1.out).mono ?_); (case side1 => repeat (first | exact (Kd.N_reads' HO138.out).2.2 | (with_reducible refine Kd.C_alloc ?_ _) | (with_reducible refine Kd.C_drewN ?_ _) | (with_reducible refine Kd.C_drew ?_))); (case side2 => exact (Kd.N_reads' HO138.out).2.1); rintro e w12 ⟨rfl, hb⟩; refine ⟨_, rfl, ?_⟩; have n0_ := Aside0.mk (Kd.N_below (by (with_reducible repeat (first | apply Kd.N_alloc | apply Kd.N_drewN | apply Kd.N_drew)); exact HO138.out) hb); have n1_ := Aside0.mk (below_step (by repeat (first | (with_reducible first | exact HB.out | apply below_alloc | apply pw_below_drewN | apply below_drew1) | exact HB.out)) hb); clear HO138; clear HB; have HO138 := n0_; have HB := n1_; clear n0_ n1_; (try clear hb); (try clear hb2); (try clear hk); (try clear hi)) | (go_at_call 18; (with_reducible refine (event_Covers.calls k _ _ y136 10 true _ ?side1 ?side2 A3.out).mono ?_); (case side1 => repeat (first | exact (Kd.N_reads' HO138.out).2.2 | (with_reducible refine Kd.C_alloc ?_ _) | (with_reducible refine Kd.C_drewN ?_ _) | (with_reducible refine Kd.C_drew ?_))); (case side2 => exact (Kd.N_reads' HO138.out).2.1); rintro e w13 ⟨rfl, hb⟩; have n0_ := Aside0.mk (Kd.N_below (by (with_reducible repeat (first | apply Kd.N_alloc | apply Kd.N_drewN | apply Kd.N_drew)); exact HO138.out) hb); have n1_ := Aside0.mk (below_step (by repeat (first | (with_reducible first | exact HB.out | apply below_alloc | apply pw_below_drewN | apply below_drew1) | exact HB.out)) hb); clear HO138; clear HB; have HO138 := n0_; have HB := n1_; clear n0_ n1_; (try clear hb); (try clear hb2); (try clear hk); (try clear hi)) | (go_at_call 18; (with_reducible refine (event_Covers.calls k _ _ y136 9 t147 _ ?side1 ?side2 A5.out).mono ?_); (case side1 => repeat (first | exact (Kd.N_reads' HO138.out).2.2 | (with_reducible refine Kd.C_alloc ?_ _) | (with_reducible refine Kd.C_drewN ?_ _) | (with_reducible refine Kd.C_drew ?_))); (case side2 => exact (Kd.N_reads' HO138.out).2.1); rintro e w14 ⟨rfl, hb⟩; have n0_ := Aside0.mk (Kd.N_below (by (with_reducible repeat (first | apply Kd.N_alloc | apply Kd.N_drewN | apply Kd.N_drew)); exact HO138.out) hb); have n1_ := Aside0.mk (below_step (by repeat (first | (with_reducible first | exact HB.out | apply below_alloc | apply pw_below_drewN | apply below_drew1) | exact HB.out)) hb); clear HO138; clear HB; have HO138 := n0_; have HB := n1_; clear n0_ n1_; (try clear hb); (try clear hb2); (try clear hk); (try clear hi)))
   go_ret
   exact ⟨by first | rfl | (simp [errW_none, errW_some] <;> rfl) | (simp [*, errW_none, errW_some] <;> rfl), by repeat (first | (with_reducible first | exact HB.out | apply below_alloc | apply pw_below_drewN | apply below_drew1) | exact HB.out)⟩
  ·replace c4 := Bool.eq_false_iff.mpr c4
   subst c4
   have H1 : (some false) = some r := by rw [if_neg (show ¬ (false = true) by decide)] at H; exact H
   clear H
   have H := H1
   clear H1
   obtain rfl := Option.some.inj H
   go_enter Try.func10, Try.ntmps10
   go_wp2_with (first | ((with_reducible refine gate_dst (N := 3) rfl ?_); refine Kd.N_lit k36 _ 36 ?hg (N' := 3) ?hd (xs := ([(⟨(⟨#[]⟩ : ByteArray), 0, ([] : List (S39)), 0, ([] : List (S41)), 0⟩ : S36)] : List (S36))) (inner := [.string (⟨#[]⟩ : ByteArray), .int .i64 0, .slice none 0 0, .int .i64 0, .slice none 0 0, .int .i64 0]) (ok := (fun _ => True)) (okp := (fun _ => True)) ?hr ?hp (fun _ hk => hk) ((show ∀ k_, w.heap.size ≤ k_ → (fun _ => True) k_ from fun k_ hk => trivial) _ (Nat.le_refl _)) (Below.refl _ _) (Nat.le_refl _) (by simp) ?_; (case hd => rfl); (case hg => rfl); (case hr => first | (go_simp; done) | (go_simp; rfl)); (case hp => exact (Reps.c6 (show Kd.FK k36 _ _ (⟨(⟨#[]⟩ : ByteArray), 0, ([] : List (S39)), 0, ([] : List (S41)), 0⟩ : S36) [.string (⟨#[]⟩ : ByteArray), .int .i64 0, .slice none 0 0, .int .i64 0, .slice none 0 0, .int .i64 0] from (k36_mkF _ _ (⟨(⟨#[]⟩ : ByteArray), 0, ([] : List (S39)), 0, ([] : List (S41)), 0⟩ : S36) (Nat.le_refl _) (Kd.F_nil _ _ _) (Nat.le_refl _) (Kd.F_nil _ _ _))) (Reps.none _ _))); intro v134 w15 ho16 hb hg_ hnew_; clear hg_ hnew_; (first | rw [← Ny133.out] at ho16 | (simp only [Int.reduceToNat] at ho16; rw [← Ny133.out] at ho16)); have n0_ := Aside0.mk (Kd.N_lower ho16 (below_size (by repeat (first | (with_reducible first | exact HB.out | apply below_alloc | apply pw_below_drewN | apply below_drew1) | exact HB.out)))); have n1_ := Aside0.mk (below_step (by repeat (first | (with_reducible first | exact HB.out | apply below_alloc | apply pw_below_drewN | apply below_drew1) | exact HB.out)) hb); clear HB; have HO135 := n0_; have HB := n1_; clear n0_ n1_; clear hb ho16; obtain ⟨Ao17, co17, eo17⟩ := Kd.N_slice HO135.out; subst eo17) | ((with_reducible refine gate_dst (N := 7) rfl ?_); refine Kd.N_lit k46 _ 46 ?hg (N' := 7) ?hd (xs := ([(⟨1, 0, 6, y133, 0, 0⟩ : S46), (⟨2, 6, 9, ([] : List (S36)), 15, 6⟩ : S46), (⟨3, 9, 10, ([] : List (S36)), 0, 0⟩ : S46)] : List (S46))) (inner := [.int .i64 1, .int .i64 0, .int .i64 6, .slice Ao17 y133.length co17, .int .i64 0, .int .i64 0, .int .i64 2, .int .i64 6, .int .i64 9, .slice none 0 0, .int .i64 15, .int .i64 6, .int .i64 3, .int .i64 9, .int .i64 10, .slice none 0 0, .int .i64 0, .int .i64 0]) (ok := (fun _ => True)) (okp := (fun _ => True)) ?hr ?hp (fun _ hk => hk) ((show ∀ k_, w15.heap.size ≤ k_ → (fun _ => True) k_ from fun k_ hk => trivial) _ (Nat.le_refl _)) (Below.refl _ _) (Nat.le_refl _) (by simp) ?_; (case hd => rfl); (case hg => rfl); (case hr => first | (go_simp; done) | (go_simp; rfl)); (case hp => exact (Reps.c6 (show Kd.FK k46 _ _ (⟨1, 0, 6, y133, 0, 0⟩ : S46) [.int .i64 1, .int .i64 0, .int .i64 6, .slice Ao17 y133.length co17, .int .i64 0, .int .i64 0] from (k46_mkF _ _ (⟨1, 0, 6, y133, 0, 0⟩ : S46) (Kd.N_reads' (Kd.N_mono (ok' := (fun _ => True)) (HO135.out) (fun k_ hk => trivial))).2.1 (Kd.N_F (Kd.N_mono (ok' := (fun _ => True)) (HO135.out) (fun k_ hk => trivial))))) (Reps.c6 (show Kd.FK k46 _ _ (⟨2, 6, 9, ([] : List (S36)), 15, 6⟩ : S46) [.int .i64 2, .int .i64 6, .int .i64 9, .slice none 0 0, .int .i64 15, .int .i64 6] from (k46_mkF _ _ (⟨2, 6, 9, ([] : List (S36)), 15, 6⟩ : S46) (Nat.le_refl _) (Kd.F_nil _ _ _))) (Reps.c6 (show Kd.FK k46 _ _ (⟨3, 9, 10, ([] : List (S36)), 0, 0⟩ : S46) [.int .i64 3, .int .i64 9, .int .i64 10, .slice none 0 0, .int .i64 0, .int .i64 0] from (k46_mkF _ _ (⟨3, 9, 10, ([] : List (S36)), 0, 0⟩ : S46) (Nat.le_refl _) (Kd.F_nil _ _ _))) (Reps.none _ _))))); intro v137 w18 ho19 hb hg_ hnew_; clear hg_ hnew_; (first | rw [← Ny136.out] at ho19 | (simp only [Int.reduceToNat] at ho19; rw [← Ny136.out] at ho19)); have n0_ := Aside0.mk (Kd.N_lower ho19 (below_size (by repeat (first | (with_reducible first | exact HB.out | apply below_alloc | apply pw_below_drewN | apply below_drew1) | exact HB.out)))); have n1_ := Aside0.mk (below_step (by repeat (first | (with_reducible first | exact HB.out | apply below_alloc | apply pw_below_drewN | apply below_drew1) | exact HB.out)) hb); clear HB; clear HO135; have HO138 := n0_; have HB := n1_; clear n0_ n1_; clear hb ho19; obtain ⟨Ao20, co20, eo20⟩ := Kd.N_slice HO138.out; subst eo20) | ((with_reducible refine gate_callee (f := 11) rfl ?_); refine goesL_ (some 9) rfl rfl Try.func11 (by kernel_rfl) rfl #[.slice Ao20 y136.length co20] rfl (by (try simp only [List.map_toArray, List.map_cons, List.map_nil]); first | done | rfl | (simp only [List.length_drop, List.length_take]; rfl)) ?_; (with_reducible refine (event_Count.calls k _ _ y136 t139 t140 t141 t142 t143 t144 t145 _ ?side1 ?side2 A1.out).mono ?_); (case side1 => repeat (first | exact (Kd.N_reads' HO138.out).2.2 | (with_reducible refine Kd.C_alloc ?_ _) | (with_reducible refine Kd.C_drewN ?_ _) | (with_reducible refine Kd.C_drew ?_))); (case side2 => exact (Kd.N_reads' HO138.out).2.1); rintro e w21 ⟨rfl, hb⟩; refine ⟨_, rfl, ?_⟩; have n0_ := Aside0.mk (Kd.N_below (by (with_reducible repeat (first | apply Kd.N_alloc | apply Kd.N_drewN | apply Kd.N_drew)); exact HO138.out) hb); have n1_ := Aside0.mk (below_step (by repeat (first | (with_reducible first | exact HB.out | apply below_alloc | apply pw_below_drewN | apply below_drew1) | exact HB.out)) hb); clear HO138; clear HB; have HO138 := n0_; have HB := n1_; clear n0_ n1_; (try clear hb); (try clear hb2); (try clear hk); (try clear hi)) | (go_at_call 18; (with_reducible refine (event_Covers.calls k _ _ y136 10 false _ ?side1 ?side2 A3.out).mono ?_); (case side1 => repeat (first | exact (Kd.N_reads' HO138.out).2.2 | (with_reducible refine Kd.C_alloc ?_ _) | (with_reducible refine Kd.C_drewN ?_ _) | (with_reducible refine Kd.C_drew ?_))); (case side2 => exact (Kd.N_reads' HO138.out).2.1); rintro e w22 ⟨rfl, hb⟩; have n0_ := Aside0.mk (Kd.N_below (by (with_reducible repeat (first | apply Kd.N_alloc | apply Kd.N_drewN | apply Kd.N_drew)); exact HO138.out) hb); have n1_ := Aside0.mk (below_step (by repeat (first | (with_reducible first | exact HB.out | apply below_alloc | apply pw_below_drewN | apply below_drew1) | exact HB.out)) hb); clear HO138; clear HB; have HO138 := n0_; have HB := n1_; clear n0_ n1_; (try clear hb); (try clear hb2); (try clear hk); (try clear hi)))
   go_ret
   exact ⟨by first | rfl | (simp [errW_none, errW_some] <;> rfl) | (simp [*, errW_none, errW_some] <;> rfl), by repeat (first | (with_reducible first | exact HB.out | apply below_alloc | apply pw_below_drewN | apply below_drew1) | exact HB.out)⟩
 ·rw [if_neg c2] at H
  have c2b0 : (t139 == 1 && (t140 == 1 && (t141 == 6 && (t142 == 1 && (t143 == 3 && (t144 == 1 && (t145 == 1))))))) = false := by simpa using c2
  (try (have c2b1 : decide (t139 = 1 && (t140 == 1 && (t141 == 6 && (t142 == 1 && (t143 == 3 && (t144 == 1 && (t145 == 1))))))) = false := by simpa using c2))
  (try (have c2b2 : (t139 == 1 && (t140 == 1 && (t141 == 6 && (t142 == 1 && (t143 == 3 && (t144 == 1 && (t145 == 1))))))) = false := by simpa using c2))
  (try (have c2b3 : ¬ (t139 = 1 && (t140 == 1 && (t141 == 6 && (t142 == 1 && (t143 == 3 && (t144 == 1 && (t145 == 1))))))) := by simpa using c2))
  clear c2
  obtain rfl := Option.some.inj H
  go_enter Try.func10, Try.ntmps10
  go_wp2_with (first | ((with_reducible refine gate_dst (N := 3) rfl ?_); refine Kd.N_lit k36 _ 36 ?hg (N' := 3) ?hd (xs := ([(⟨(⟨#[]⟩ : ByteArray), 0, ([] : List (S39)), 0, ([] : List (S41)), 0⟩ : S36)] : List (S36))) (inner := [.string (⟨#[]⟩ : ByteArray), .int .i64 0, .slice none 0 0, .int .i64 0, .slice none 0 0, .int .i64 0]) (ok := (fun _ => True)) (okp := (fun _ => True)) ?hr ?hp (fun _ hk => hk) ((show ∀ k_, w.heap.size ≤ k_ → (fun _ => True) k_ from fun k_ hk => trivial) _ (Nat.le_refl _)) (Below.refl _ _) (Nat.le_refl _) (by simp) ?_; (case hd => rfl); (case hg => rfl); (case hr => first | (go_simp; done) | (go_simp; rfl)); (case hp => exact (Reps.c6 (show Kd.FK k36 _ _ (⟨(⟨#[]⟩ : ByteArray), 0, ([] : List (S39)), 0, ([] : List (S41)), 0⟩ : S36) [.string (⟨#[]⟩ : ByteArray), .int .i64 0, .slice none 0 0, .int .i64 0, .slice none 0 0, .int .i64 0] from (k36_mkF _ _ (⟨(⟨#[]⟩ : ByteArray), 0, ([] : List (S39)), 0, ([] : List (S41)), 0⟩ : S36) (Nat.le_refl _) (Kd.F_nil _ _ _) (Nat.le_refl _) (Kd.F_nil _ _ _))) (Reps.none _ _))); intro v134 w23 ho24 hb hg_ hnew_; clear hg_ hnew_; (first | rw [← Ny133.out] at ho24 | (simp only [Int.reduceToNat] at ho24; rw [← Ny133.out] at ho24)); have n0_ := Aside0.mk (Kd.N_lower ho24 (below_size (by repeat (first | (with_reducible first | exact HB.out | apply below_alloc | apply pw_below_drewN | apply below_drew1) | exact HB.out)))); have n1_ := Aside0.mk (below_step (by repeat (first | (with_reducible first | exact HB.out | apply below_alloc | apply pw_below_drewN | apply below_drew1) | exact HB.out)) hb); clear HB; have HO135 := n0_; have HB := n1_; clear n0_ n1_; clear hb ho24; obtain ⟨Ao25, co25, eo25⟩ := Kd.N_slice HO135.out; subst eo25) | ((with_reducible refine gate_dst (N := 7) rfl ?_); refine Kd.N_lit k46 _ 46 ?hg (N' := 7) ?hd (xs := ([(⟨1, 0, 6, y133, 0, 0⟩ : S46), (⟨2, 6, 9, ([] : List (S36)), 15, 6⟩ : S46), (⟨3, 9, 10, ([] : List (S36)), 0, 0⟩ : S46)] : List (S46))) (inner := [.int .i64 1, .int .i64 0, .int .i64 6, .slice Ao25 y133.length co25, .int .i64 0, .int .i64 0, .int .i64 2, .int .i64 6, .int .i64 9, .slice none 0 0, .int .i64 15, .int .i64 6, .int .i64 3, .int .i64 9, .int .i64 10, .slice none 0 0, .int .i64 0, .int .i64 0]) (ok := (fun _ => True)) (okp := (fun _ => True)) ?hr ?hp (fun _ hk => hk) ((show ∀ k_, w23.heap.size ≤ k_ → (fun _ => True) k_ from fun k_ hk => trivial) _ (Nat.le_refl _)) (Below.refl _ _) (Nat.le_refl _) (by simp) ?_; (case hd => rfl); (case hg => rfl); (case hr => first | (go_simp; done) | (go_simp; rfl)); (case hp => exact (Reps.c6 (show Kd.FK k46 _ _ (⟨1, 0, 6, y133, 0, 0⟩ : S46) [.int .i64 1, .int .i64 0, .int .i64 6, .slice Ao25 y133.length co25, .int .i64 0, .int .i64 0] from (k46_mkF _ _ (⟨1, 0, 6, y133, 0, 0⟩ : S46) (Kd.N_reads' (Kd.N_mono (ok' := (fun _ => True)) (HO135.out) (fun k_ hk => trivial))).2.1 (Kd.N_F (Kd.N_mono (ok' := (fun _ => True)) (HO135.out) (fun k_ hk => trivial))))) (Reps.c6 (show Kd.FK k46 _ _ (⟨2, 6, 9, ([] : List (S36)), 15, 6⟩ : S46) [.int .i64 2, .int .i64 6, .int .i64 9, .slice none 0 0, .int .i64 15, .int .i64 6] from (k46_mkF _ _ (⟨2, 6, 9, ([] : List (S36)), 15, 6⟩ : S46) (Nat.le_refl _) (Kd.F_nil _ _ _))) (Reps.c6 (show Kd.FK k46 _ _ (⟨3, 9, 10, ([] : List (S36)), 0, 0⟩ : S46) [.int .i64 3, .int .i64 9, .int .i64 10, .slice none 0 0, .int .i64 0, .int .i64 0] from (k46_mkF _ _ (⟨3, 9, 10, ([] : List (S36)), 0, 0⟩ : S46) (Nat.le_refl _) (Kd.F_nil _ _ _))) (Reps.none _ _))))); intro v137 w26 ho27 hb hg_ hnew_; clear hg_ hnew_; (first | rw [← Ny136.out] at ho27 | (simp only [Int.reduceToNat] at ho27; rw [← Ny136.out] at ho27)); have n0_ := Aside0.mk (Kd.N_lower ho27 (below_size (by repeat (first | (with_reducible first | exact HB.out | apply below_alloc | apply pw_below_drewN | apply below_drew1) | exact HB.out)))); have n1_ := Aside0.mk (below_step (by repeat (first | (with_reducible first | exact HB.out | apply below_alloc | apply pw_below_drewN | apply below_drew1) | exact HB.out)) hb); clear HB; clear HO135; have HO138 := n0_; have HB := n1_; clear n0_ n1_; clear hb ho27; obtain ⟨Ao28, co28, eo28⟩ := Kd.N_slice HO138.out; subst eo28) | ((with_reducible refine gate_callee (f := 11) rfl ?_); refine goesL_ (some 9) rfl rfl Try.func11 (by kernel_rfl) rfl #[.slice Ao28 y136.length co28] rfl (by (try simp only [List.map_toArray, List.map_cons, List.map_nil]); first | done | rfl | (simp only [List.length_drop, List.length_take]; rfl)) ?_; (with_reducible refine (event_Count.calls k _ _ y136 t139 t140 t141 t142 t143 t144 t145 _ ?side1 ?side2 A1.out).mono ?_); (case side1 => repeat (first | exact (Kd.N_reads' HO138.out).2.2 | (with_reducible refine Kd.C_alloc ?_ _) | (with_reducible refine Kd.C_drewN ?_ _) | (with_reducible refine Kd.C_drew ?_))); (case side2 => exact (Kd.N_reads' HO138.out).2.1); rintro e w29 ⟨rfl, hb⟩; refine ⟨_, rfl, ?_⟩; have n0_ := Aside0.mk (Kd.N_below (by (with_reducible repeat (first | apply Kd.N_alloc | apply Kd.N_drewN | apply Kd.N_drew)); exact HO138.out) hb); have n1_ := Aside0.mk (below_step (by repeat (first | (with_reducible first | exact HB.out | apply below_alloc | apply pw_below_drewN | apply below_drew1) | exact HB.out)) hb); clear HO138; clear HB; have HO138 := n0_; have HB := n1_; clear n0_ n1_; (try clear hb); (try clear hb2); (try clear hk); (try clear hi)))
  go_ret
  exact ⟨by first | rfl | (simp [errW_none, errW_some] <;> rfl) | (simp [*, errW_none, errW_some] <;> rfl), by repeat (first | (with_reducible first | exact HB.out | apply below_alloc | apply pw_below_drewN | apply below_drew1) | exact HB.out)⟩

/-! ### forebayref21_Metrics: function 15 -/
def forebayref21_Metrics.l0 : Nat → List (S46) → List (S36) → Int → Option ((List (S36)))
 | 0, _, _, _ => none
 | k + 1, x0, x3, x4 => if x4 < (x0.length : Int) then (if 0 ≤ x4 then (if ((rd_T46 x0 x4).f0) = 1 then (if x3.length + ((rd_T46 x0 x4).f3).length < 1599289640401 then (forebayref21_Metrics.l0 k x0 (x3 ++ ((rd_T46 x0 x4).f3)) (wrap64 (x4 + 1))) else (none)) else (forebayref21_Metrics.l0 k x0 x3 (wrap64 (x4 + 1)))) else (none)) else (some x3)
def forebayref21_Metrics.f (k : Nat) (l0 : List (S46)) : Option ((List (S36))) := forebayref21_Metrics.l0 k l0 (([] : List (S36))) 0
theorem forebayref21_Metrics.mono_l : ∀ k, (∀ y0 y1 y2, LeO (forebayref21_Metrics.l0 k y0 y1 y2) (forebayref21_Metrics.l0 (k + 1) y0 y1 y2))
 | 0 => fun _ _ _ r h => by simp [forebayref21_Metrics.l0] at h
 | k + 1 => by
  have ih0 := forebayref21_Metrics.mono_l k
  ·intro y0 y1 y2
   unfold forebayref21_Metrics.l0
   repeat' first
   | (with_reducible exact ih0 _ _ _)
   | (with_reducible exact LeO.refl _)
   | (with_reducible exact LeO.none _)
   | (with_reducible refine LeO.ite ?_ ?_)
   | (with_reducible refine LeO.bind ?_ (fun _ => ?_))
   | exact ih0 _ _ _
   | exact LeO.none _
   | refine LeO.ite ?_ ?_
   | refine LeO.bind ?_ (fun _ => ?_)
theorem forebayref21_Metrics.mono : ∀ a0 k, LeO (forebayref21_Metrics.f k a0) (forebayref21_Metrics.f (k + 1) a0) := by
 intro a0 k
 have ih0 := forebayref21_Metrics.mono_l k
 unfold forebayref21_Metrics.f
 repeat' first
   | (with_reducible exact ih0 _ _ _)
   | (with_reducible exact LeO.refl _)
   | (with_reducible exact LeO.none _)
   | (with_reducible refine LeO.ite ?_ ?_)
   | (with_reducible refine LeO.bind ?_ (fun _ => ?_))
   | exact ih0 _ _ _
   | exact LeO.none _
   | refine LeO.ite ?_ ?_
   | refine LeO.bind ?_ (fun _ => ?_)
set_option maxHeartbeats 8000000 in
set_option maxRecDepth 100000 in
theorem forebayref21_Metrics.calls (k : Nat) (P0_ : Nat → Prop) (A0 : Option Addr) (c0 : Nat) (l0 : List (S46)) (r : List (S36)) (w : World) (hs0 : Kd.V k46 46 w w.heap.size (fun k_ => P0_ k_) (.slice A0 l0.length c0) l0) (h : forebayref21_Metrics.f k l0 = some r) :
  Calls Try.prog 15 #[.slice A0 l0.length c0] w fun e w' => ∃ v0_ : Value, e = .returned (v0_) ∧ Kd.N k36 36 w' w.heap.size (fun k_ => (P0_ k_ ∨ w.heap.size ≤ k_)) v0_ r ∧ Below w.heap.size w w' := by
 have HO0 := Aside0.mk (show Kd.V k46 46 w w.heap.size (fun k_ => (P0_ k_ ∨ w.heap.size ≤ k_)) (.slice A0 l0.length c0) l0 from Kd.V_mono hs0 (fun k_ hk => .inl hk))
 have HB := Aside0.mk (Below.refl w.heap.size w)
 have H : (forebayref21_Metrics.l0 k l0 (([] : List (S36))) 0) = some r := h
 clear h
 obtain ⟨y148, hy148⟩ : ∃ y_ : List (S36), y_ = (([] : List (S36))) := ⟨_, rfl⟩
 replace H : (forebayref21_Metrics.l0 k l0 y148 0) = some r := by first | (rw [hy148]; with_reducible exact H) | (have H2_ := (Option.bind_some _ _).symm.trans H; rw [hy148]; with_reducible exact H2_) | (have H2_ := (Option.bind_some _ _).symm.trans H; with_reducible exact H2_) | with_reducible exact H | (rw [hy148]; exact H) | exact H
 have Ny148 := Aside0.mk hy148
 clear hy148
 have H' := Aside0.mk H
 clear H
 go_enter Try.func15, Try.ntmps15
 go_wp2_with (first | ((with_reducible refine gate_dst (N := 5) rfl ?_); refine Kd.N_lit k36 _ 36 ?hg (N' := 5) ?hd (xs := ([] : List (S36))) (inner := []) (ok := (fun k_ => (P0_ k_ ∨ w.heap.size ≤ k_))) (okp := (fun k_ => (P0_ k_ ∨ w.heap.size ≤ k_))) ?hr ?hp (fun _ hk => hk) ((show ∀ k_, w.heap.size ≤ k_ → (fun k_ => (P0_ k_ ∨ w.heap.size ≤ k_)) k_ from fun k_ hk => (.inr (Nat.le_trans (below_size (by repeat (first | (with_reducible first | exact HB.out | apply below_alloc | apply pw_below_drewN | apply below_drew1) | exact HB.out))) hk))) _ (Nat.le_refl _)) (Below.refl _ _) (Nat.le_refl _) (by simp) ?_; (case hd => rfl); (case hg => rfl); (case hr => first | (go_simp; done) | (go_simp; rfl)); (case hp => exact (Reps.none _ _)); intro v149 w2 ho3 hb hg_ hnew_; clear hg_ hnew_; (first | rw [← Ny148.out] at ho3 | (simp only [Int.reduceToNat] at ho3; rw [← Ny148.out] at ho3)); have n0_ := Aside0.mk (Kd.V_elder' (by (with_reducible repeat (first | apply Kd.V_alloc | apply Kd.V_drewN | apply Kd.V_drew)); exact HO0.out) (Kd.N_base ho3) hb); have n1_ := Aside0.mk (Kd.N_lower ho3 (below_size (by repeat (first | (with_reducible first | exact HB.out | apply below_alloc | apply pw_below_drewN | apply below_drew1) | exact HB.out)))); have n2_ := Aside0.mk (below_step (by repeat (first | (with_reducible first | exact HB.out | apply below_alloc | apply pw_below_drewN | apply below_drew1) | exact HB.out)) hb); clear HO0; clear HB; have HO0 := n0_; have HO150 := n1_; have HB := n2_; clear n0_ n1_ n2_; clear hb ho3))
 go_loopg [3, 4] k (fun kq v3 v4 w' => ∃ (x3_1 : List (S36)) (x4_1 : Int), v4 = .int .i64 x4_1 ∧ Aside0 (forebayref21_Metrics.l0 kq l0 x3_1 x4_1 = some r) ∧ Aside0 (kq ≤ k) ∧ Aside0 (Kd.V k46 46 w' w.heap.size (fun k_ => (P0_ k_ ∨ w.heap.size ≤ k_) ∧ some k_ ≠ (v3 : Value).ownBlock) (.slice A0 l0.length c0) l0) ∧ Aside0 (Kd.N k36 36 w' w.heap.size (fun k_ => (P0_ k_ ∨ w.heap.size ≤ k_)) v3 x3_1) ∧ Aside0 (Below w.heap.size w w'))
 case atStart => exact ⟨(y148), (0), (by first | rfl | (simp; done) | (simp [*]; done)), H', ⟨Nat.le_refl _⟩, ⟨by (with_reducible repeat (first | apply Kd.V_alloc | apply Kd.V_drewN | apply Kd.V_drew)); exact HO0.out⟩, ⟨by (with_reducible repeat (first | apply Kd.N_alloc | apply Kd.N_drewN | apply Kd.N_drew)); exact HO150.out⟩, ⟨by repeat (first | (with_reducible first | exact HB.out | apply below_alloc | apply pw_below_drewN | apply below_drew1) | exact HB.out)⟩⟩
 case round =>
  clear H'
  try clear c1
  try clear p2
  obtain ⟨x3_1, x4_1, rfl, HA, HK1, HO_0, HO_3, HB⟩ := hrel
  cases gk with
  | zero => exact absurd HA.out (by simp [forebayref21_Metrics.l0])
  | succ k1 =>
   have H := HA.out
   clear HA
   simp only [forebayref21_Metrics.l0] at H
   by_cases c4 : x4_1 < (l0.length : Int)
   ·rw [if_pos c4] at H
    have c4b0 : decide (x4_1 < (l0.length : Int)) = true := decide_eq_true c4
    clear c4
    by_cases c5 : 0 ≤ x4_1
    ·rw [if_pos c5] at H
     have c5b0 : decide (0 ≤ x4_1) = true := decide_eq_true c5
     clear c5
     by_cases c6 : ((rd_T46 l0 x4_1).f0) = 1
     ·rw [if_pos c6] at H
      have c6b0 : (((rd_T46 l0 x4_1).f0) == 1) = true := beq_iff_eq.mpr c6
      have c6b1 : (((rd_T46 l0 x4_1).f0) != 1) = false := bne_eq_false_iff_eq.mpr c6
      clear c6
      by_cases c7 : x3_1.length + ((rd_T46 l0 x4_1).f3).length < 1599289640401
      ·rw [if_pos c7] at H
       have LMc7 := Aside0.mk c7
       clear c7
       obtain ⟨y153, hy153⟩ : ∃ y_ : List (S36), y_ = (x3_1 ++ ((rd_T46 l0 x4_1).f3)) := ⟨_, rfl⟩
       replace H : (forebayref21_Metrics.l0 k1 l0 y153 (wrap64 (x4_1 + 1))) = some r := by first | (rw [hy153]; with_reducible exact H) | (have H2_ := (Option.bind_some _ _).symm.trans H; rw [hy153]; with_reducible exact H2_) | (have H2_ := (Option.bind_some _ _).symm.trans H; with_reducible exact H2_) | with_reducible exact H | (rw [hy153]; exact H) | exact H
       have Ny153 := Aside0.mk hy153
       clear hy153
       have H' := Aside0.mk H
       clear H
       have p151 : 0 ≤ (x4_1 : Int) := of_decide_eq_true (by first | (with_reducible assumption) | assumption)
       have q151 : x4_1 < (l0.length : Int) := of_decide_eq_true (by first | (with_reducible assumption) | assumption)
       obtain ⟨ad151, A151_3, c151_3, e151, hx151_0, hx151_1, hx151_2, hx151_3, hx151_4, hx151_5, hl151_3, hi151_3⟩ := at_T46 (Kd.V_reads' HO_0.out).2.2 x4_1 p151 q151
       cases e151
       obtain ⟨ce151, hce151, hMe151, hcc151⟩ := Kd.V_get HO_0.out z46 x4_1 p151 (by first | exact q151 | exact of_decide_eq_true (by first | (with_reducible assumption) | assumption) | (have e_ := (Kd.V_reads' HO_0.out).1; omega))
       obtain ⟨ua151_3, uc151_3, rfl, ul151_3, ge151_3⟩ := k46_openF hMe151
       have hv151_3 := hcc151 3 _ rfl
       rw [add_field _ _ 3 (by omega)] at hv151_3
       replace hv151_3 := Option.some.inj (hv151_3.symm.trans hx151_3)
       injection hv151_3 with hva_ hvn_ hvc_
       rw [hva_] at ge151_3
       rw [hvc_] at ul151_3
       have HL151_3 := Aside0.mk (show Kd.V k36 36 _ w.heap.size _ _ ((rd_T46 l0 x4_1).f3) from Kd.V_mk ul151_3 ge151_3)
       clear hva_ hvn_ hvc_ ge151_3 ul151_3
       clear hcc151 hce151
       have HR151_3 := Aside0.mk hi151_3
       have HC151_3 := Aside0.mk hl151_3
       clear hi151_3 hl151_3
       replace p151 := eq_true p151
       replace q151 := eq_true q151
       have p152 : 0 ≤ (x4_1 : Int) := of_decide_eq_true (by first | (with_reducible assumption) | assumption)
       have q152 : x4_1 < (l0.length : Int) := of_decide_eq_true (by first | (with_reducible assumption) | assumption)
       obtain ⟨ad152, A152_3, c152_3, e152, hx152_0, hx152_1, hx152_2, hx152_3, hx152_4, hx152_5, hl152_3, hi152_3⟩ := at_T46 (Kd.V_reads' HO_0.out).2.2 x4_1 p152 q152
       obtain rfl : ad151 = ad152 := (by injection e152)
       obtain ⟨ce152, hce152, hMe152, hcc152⟩ := Kd.V_get HO_0.out z46 x4_1 p152 (by first | exact q152 | exact of_decide_eq_true (by first | (with_reducible assumption) | assumption) | (have e_ := (Kd.V_reads' HO_0.out).1; omega))
       obtain ⟨ua152_3, uc152_3, rfl, ul152_3, ge152_3⟩ := k46_openF hMe152
       have hv152_3 := hcc152 3 _ rfl
       rw [add_field _ _ 3 (by omega)] at hv152_3
       replace hv152_3 := Option.some.inj (hv152_3.symm.trans hx152_3)
       injection hv152_3 with hva_ hvn_ hvc_
       rw [hva_] at ge152_3
       rw [hvc_] at ul152_3
       have HL152_3 := Aside0.mk (show Kd.V k36 36 _ w.heap.size _ _ ((rd_T46 l0 x4_1).f3) from Kd.V_mk ul152_3 ge152_3)
       clear hva_ hvn_ hvc_ ge152_3 ul152_3
       clear hcc152 hce152
       have HR152_3 := Aside0.mk hi152_3
       have HC152_3 := Aside0.mk hl152_3
       clear hi152_3 hl152_3
       replace p152 := eq_true p152
       replace q152 := eq_true q152
       have ea_ := Option.some.inj (hx151_3.symm.trans hx152_3)
       injection ea_ with ea_ en_ ec_
       subst ea_
       subst ec_
       clear en_
       go_wp2_with (first | ((with_reducible refine gate_builtin (b := .append) (xs := #[.tmp 18, .tmp 23]) rfl ?_); at_builtin; refine Kd.N_append_rows k36 (w0 := w) w.heap.size rfl (.tmp 18) (.tmp 23) 30 36 (.agg #[(.string ⟨#[]⟩), (.int .i64 0), (.slice none 0 0), (.int .i64 0), (.slice none 0 0), (.int .i64 0)]) 88 rfl Try.underlying30 info36 rfl (by decide) (by omega) u3 x3_1 ((rd_T46 l0 x4_1).f3) _ _ _ (fun k_ => (P0_ k_ ∨ w.heap.size ≤ k_)) (fun k_ => ((fun k_ => (P0_ k_ ∨ w.heap.size ≤ k_))) k_ ∧ some k_ ≠ (u3 : Value).ownBlock) rfl rfl ?aO ?aR (fun _ hk => hk) ?aF ?aB ?aS ?aL ?_; (case aR => exact (by skip; exact Kd.V_F (Kd.V_mono (ok' := (fun k_ => ((fun k_ => (P0_ k_ ∨ w.heap.size ≤ k_))) k_ ∧ some k_ ≠ (u3 : Value).ownBlock)) (HL152_3.out) (fun k_ hk => ⟨hk.1, hk.2⟩)))); (case aB => exact (by repeat (first | (with_reducible first | exact HB.out | apply below_alloc | apply pw_below_drewN | apply below_drew1) | exact HB.out))); (case aF => exact (fun k_ hk => (.inr (Nat.le_trans (below_size (by repeat (first | (with_reducible first | exact HB.out | apply below_alloc | apply pw_below_drewN | apply below_drew1) | exact HB.out))) hk)))); (case aO => exact (by (with_reducible repeat (first | apply Kd.N_alloc | apply Kd.N_drewN | apply Kd.N_drew)); exact HO_3.out)); (case aS => exact (below_size (by repeat (first | (with_reducible first | exact HB.out | apply below_alloc | apply pw_below_drewN | apply below_drew1) | exact HB.out)))); (case aL => have := LMc7.out; omega); intro v154 w8 ho hb hg hat; rw [← Ny153.out] at ho; have n0_ := Aside0.mk (Kd.V_afterv (ok := (fun k_ => (P0_ k_ ∨ w.heap.size ≤ k_))) (by (with_reducible repeat (first | apply Kd.V_alloc | apply Kd.V_drewN | apply Kd.V_drew)); exact HO_0.out) hg hat); have n1_ := Aside0.mk (Kd.V_afterv (ok := (fun k_ => (P0_ k_ ∨ w.heap.size ≤ k_))) (by (with_reducible repeat (first | apply Kd.V_alloc | apply Kd.V_drewN | apply Kd.V_drew)); exact HL151_3.out) hg hat); have n2_ := Aside0.mk (Kd.V_afterv (ok := (fun k_ => (P0_ k_ ∨ w.heap.size ≤ k_))) (by (with_reducible repeat (first | apply Kd.V_alloc | apply Kd.V_drewN | apply Kd.V_drew)); exact HL152_3.out) hg hat); have n3_ := Aside0.mk (hb); have n4_ := Aside0.mk (ho); clear HO_0; clear HL151_3; clear HL152_3; clear HB; clear HO_3; have HO_0 := n0_; have HL151_3 := n1_; have HL152_3 := n2_; have HB := n3_; have HO155 := n4_; clear n0_ n1_ n2_ n3_ n4_; clear ho hb hg hat))
       go_roundg k1
       case measure => have := HK1.out; omega
       case rel => exact ⟨(y153), (wrap64 (x4_1 + 1)), (by first | rfl | (simp; done) | (simp [*]; done)), H', ⟨by have := HK1.out; omega⟩, ⟨by (with_reducible repeat (first | apply Kd.V_alloc | apply Kd.V_drewN | apply Kd.V_drew)); exact HO_0.out⟩, ⟨by (with_reducible repeat (first | apply Kd.N_alloc | apply Kd.N_drewN | apply Kd.N_drew)); exact HO155.out⟩, ⟨by repeat (first | (with_reducible first | exact HB.out | apply below_alloc | apply pw_below_drewN | apply below_drew1) | exact HB.out)⟩⟩
      ·rw [if_neg c7] at H
       exact absurd H (by simp)
     ·rw [if_neg c6] at H
      have c6b0 : (((rd_T46 l0 x4_1).f0) == 1) = false := beq_eq_false_iff_ne.mpr c6
      have c6b1 : (((rd_T46 l0 x4_1).f0) != 1) = true := bne_iff_ne.mpr c6
      have H' := Aside0.mk H
      clear H
      have p151 : 0 ≤ (x4_1 : Int) := of_decide_eq_true (by first | (with_reducible assumption) | assumption)
      have q151 : x4_1 < (l0.length : Int) := of_decide_eq_true (by first | (with_reducible assumption) | assumption)
      obtain ⟨ad151, A151_3, c151_3, e151, hx151_0, hx151_1, hx151_2, hx151_3, hx151_4, hx151_5, hl151_3, hi151_3⟩ := at_T46 (Kd.V_reads' HO_0.out).2.2 x4_1 p151 q151
      cases e151
      obtain ⟨ce151, hce151, hMe151, hcc151⟩ := Kd.V_get HO_0.out z46 x4_1 p151 (by first | exact q151 | exact of_decide_eq_true (by first | (with_reducible assumption) | assumption) | (have e_ := (Kd.V_reads' HO_0.out).1; omega))
      obtain ⟨ua151_3, uc151_3, rfl, ul151_3, ge151_3⟩ := k46_openF hMe151
      have hv151_3 := hcc151 3 _ rfl
      rw [add_field _ _ 3 (by omega)] at hv151_3
      replace hv151_3 := Option.some.inj (hv151_3.symm.trans hx151_3)
      injection hv151_3 with hva_ hvn_ hvc_
      rw [hva_] at ge151_3
      rw [hvc_] at ul151_3
      have HL151_3 := Aside0.mk (show Kd.V k36 36 _ w.heap.size _ _ ((rd_T46 l0 x4_1).f3) from Kd.V_mk ul151_3 ge151_3)
      clear hva_ hvn_ hvc_ ge151_3 ul151_3
      clear hcc151 hce151
      have HR151_3 := Aside0.mk hi151_3
      have HC151_3 := Aside0.mk hl151_3
      clear hi151_3 hl151_3
      replace p151 := eq_true p151
      replace q151 := eq_true q151
      go_wp2
      go_roundg k1
      case measure => have := HK1.out; omega
      case rel => exact ⟨(x3_1), (wrap64 (x4_1 + 1)), (by first | rfl | (simp; done) | (simp [*]; done)), H', ⟨by have := HK1.out; omega⟩, ⟨by (with_reducible repeat (first | apply Kd.V_alloc | apply Kd.V_drewN | apply Kd.V_drew)); exact HO_0.out⟩, ⟨by (with_reducible repeat (first | apply Kd.N_alloc | apply Kd.N_drewN | apply Kd.N_drew)); exact HO_3.out⟩, ⟨by repeat (first | (with_reducible first | exact HB.out | apply below_alloc | apply pw_below_drewN | apply below_drew1) | exact HB.out)⟩⟩
    ·rw [if_neg c5] at H
     exact absurd H (by simp)
   ·rw [if_neg c4] at H
    have c4b0 : decide (x4_1 < (l0.length : Int)) = false := decide_eq_false c4
    clear c4
    obtain rfl := Option.some.inj H
    go_wp2
    go_ret
    exact ⟨_, by first | rfl | (simp [errW_none, errW_some] <;> rfl) | (simp [*, errW_none, errW_some] <;> rfl), by (with_reducible repeat (first | apply Kd.N_alloc | apply Kd.N_drewN | apply Kd.N_drew)); exact HO_3.out, by repeat (first | (with_reducible first | exact HB.out | apply below_alloc | apply pw_below_drewN | apply below_drew1) | exact HB.out)⟩

theorem eql_nil33 (A : Option Addr) (n c : Nat) (w : World) : (binOp .eql 33 (.slice A n c) (.slice none 0 0)).run Try.prog w = .ok (.bool A.isNone) w := by
 simp only [binOp]
 simp [run_equal_slice_nil w 33 39 A n c Try.underlying33]
theorem eql_nil34 (A : Option Addr) (n c : Nat) (w : World) : (binOp .eql 34 (.slice A n c) (.slice none 0 0)).run Try.prog w = .ok (.bool A.isNone) w := by
 simp only [binOp]
 simp [run_equal_slice_nil w 34 41 A n c Try.underlying34]

/-! ### api_Dec_41: function 41 -/
def api_Dec_41.f (l0 : List (S39)) : Option ((List (S39))) := (some (([] : List (S39)) : List (S39))).bind fun y156 => (if y156.length + l0.length < 5864062014805 then (some (y156 ++ l0)) else (none))
set_option maxHeartbeats 8000000 in
set_option maxRecDepth 100000 in
theorem api_Dec_41.calls (A0 : Option Addr) (c0 : Nat) (l0 : List (S39)) (r : List (S39)) (w : World) (hr0 : Kd.C k39 w A0 l0.length l0) (hc0 : l0.length ≤ c0) (h : api_Dec_41.f l0 = some r) :
  Calls Try.prog 41 #[.slice A0 l0.length c0] w fun e w' => ∃ v0_ : Value, e = .returned (v0_) ∧ Kd.R k39 39 w' w.heap.size (fun _ => True) v0_ r ∧ Below w.heap.size w w' := by
 cases A0 with
 | none =>
  have hl : l0 = [] := by
   rcases Nat.eq_zero_or_pos l0.length with hz | hz
   ·exact List.length_eq_zero_iff.1 hz
   ·obtain ⟨_, e, _⟩ := hr0.2.2 hz
    cases e
  subst hl
  have hr : r = [] := by
   have h2 : some ([] : List (S39)) = some r := h
   exact (Option.some.inj h2).symm
  subst hr
  have en := fun (n c : Nat) (w : World) => eql_nil33 none n c w
  clear hr0 h
  go_enter Try.func41, Try.ntmps41
  go_wp2_with fail
  go_ret
  exact ⟨_, rfl, Kd.R_nil _ _ _ _ _, Below.refl _ _⟩
 | some ad0 =>
  have en := fun (n c : Nat) (w : World) => eql_nil33 (some ad0) n c w
  have HR0 := Aside0.mk hr0
  have HC0 := Aside0.mk hc0
  clear hr0 hc0
  have HB := Aside0.mk (Below.refl w.heap.size w)
  have H : ((some (([] : List (S39)) : List (S39))).bind fun y156 => (if y156.length + l0.length < 5864062014805 then (some (y156 ++ l0)) else (none))) = some r := h
  clear h
  obtain ⟨y156, hy156⟩ : ∃ y_ : List (S39), y_ = (([] : List (S39))) := ⟨_, rfl⟩
  replace H : (if y156.length + l0.length < 5864062014805 then (some (y156 ++ l0)) else (none)) = some r := by first | (rw [hy156]; with_reducible exact H) | (have H2_ := (Option.bind_some _ _).symm.trans H; rw [hy156]; with_reducible exact H2_) | (have H2_ := (Option.bind_some _ _).symm.trans H; with_reducible exact H2_) | with_reducible exact H | (rw [hy156]; exact H) | exact H
  have Ny156 := Aside0.mk hy156
  clear hy156
  by_cases c2 : y156.length + l0.length < 5864062014805
  ·rw [if_pos c2] at H
   have LMc2 := Aside0.mk c2
   clear c2
   obtain ⟨y159, hy159⟩ : ∃ y_ : List (S39), y_ = (y156 ++ l0) := ⟨_, rfl⟩
   replace H : (some y159) = some r := by first | (rw [hy159]; with_reducible exact H) | (have H2_ := (Option.bind_some _ _).symm.trans H; rw [hy159]; with_reducible exact H2_) | (have H2_ := (Option.bind_some _ _).symm.trans H; with_reducible exact H2_) | with_reducible exact H | (rw [hy159]; exact H) | exact H
   have Ny159 := Aside0.mk hy159
   clear hy159
   obtain rfl := Option.some.inj H
   go_enter Try.func41, Try.ntmps41
   go_wp2_with (first | ((with_reducible refine gate_dst (N := 5) rfl ?_); refine Kd.R_lit k39 _ 39 ?hg (N := 5) ?hd (xs := ([] : List (S39))) (inner := []) (ok := fun _ => True) (okp := fun _ => True) ?hr ?hp (fun _ hk => hk) trivial (Below.refl _ _) (Nat.le_refl _) (by simp) ?_; (case hd => rfl); (case hg => rfl); (case hr => first | (go_simp; done) | (go_simp; rfl)); (case hp => exact (Reps.none _ _)); intro v157 w3 ho4 hb hg_ hnew_; clear hg_ hnew_; (first | rw [← Ny156.out] at ho4 | (simp only [Int.reduceToNat] at ho4; rw [← Ny156.out] at ho4)); have n0_ := Aside0.mk (Kd.R_lower ho4 (below_size (by repeat (first | (with_reducible first | exact HB.out | apply below_alloc | apply pw_below_drewN | apply below_drew1) | exact HB.out)))); have n1_ := Aside0.mk (below_step (by repeat (first | (with_reducible first | exact HB.out | apply below_alloc | apply pw_below_drewN | apply below_drew1) | exact HB.out)) hb); clear HB; have HO158 := n0_; have HB := n1_; clear n0_ n1_; clear hb ho4) | ((with_reducible refine gate_builtin (b := .append) (xs := #[.tmp 5, .tmp 6]) rfl ?_); at_builtin; refine Kd.R_append_rows k39 (w0 := w) w.heap.size rfl (.tmp 5) (.tmp 6) 33 39 (.agg #[(.bool false), (.int .u64 0), (.int .i64 0)]) 24 rfl Try.underlying33 info39 rfl (by decide) (by omega) v157 y156 l0 _ _ _ (fun _ => True) (fun _ => False) rfl rfl ?aO ?aR (fun _ _ h => h) (fun _ h => h.elim) ?aF ?aB ?aS ?aL ?_; (case aR => repeat (first | exact (Kd.C_below HR0.out HB.out) | (with_reducible refine Kd.C_alloc ?_ _) | (with_reducible refine Kd.C_drewN ?_ _) | (with_reducible refine Kd.C_drew ?_))); (case aB => exact (by repeat (first | (with_reducible first | exact HB.out | apply below_alloc | apply pw_below_drewN | apply below_drew1) | exact HB.out))); (case aF => exact (fun _ _ => trivial)); (case aO => exact (by (with_reducible repeat (first | apply Kd.R_alloc | apply Kd.R_drewN | apply Kd.R_drew)); exact HO158.out)); (case aS => exact (below_size (by repeat (first | (with_reducible first | exact HB.out | apply below_alloc | apply pw_below_drewN | apply below_drew1) | exact HB.out)))); (case aL => have := LMc2.out; omega); intro v160 w5 ho hb hg hat; rw [← Ny159.out] at ho; have n0_ := Aside0.mk (hb); have n1_ := Aside0.mk (ho); clear HB; clear HO158; have HB := n0_; have HO161 := n1_; clear n0_ n1_; clear ho hb hg hat))
   go_ret
   exact ⟨_, by first | rfl | (simp [errW_none, errW_some] <;> rfl) | (simp [*, errW_none, errW_some] <;> rfl), by (with_reducible repeat (first | apply Kd.R_alloc | apply Kd.R_drewN | apply Kd.R_drew)); exact HO161.out, by repeat (first | (with_reducible first | exact HB.out | apply below_alloc | apply pw_below_drewN | apply below_drew1) | exact HB.out)⟩
  ·rw [if_neg c2] at H
   exact absurd H (by simp)

/-! ### api_Tag_42: function 42 -/
def api_Tag_42.f (l0 : List (S41)) : Option ((List (S41))) := (some (([] : List (S41)) : List (S41))).bind fun y162 => (if y162.length + l0.length < 4398046511104 then (some (y162 ++ l0)) else (none))
set_option maxHeartbeats 8000000 in
set_option maxRecDepth 100000 in
theorem api_Tag_42.calls (A0 : Option Addr) (c0 : Nat) (l0 : List (S41)) (r : List (S41)) (w : World) (hr0 : Kd.C k41 w A0 l0.length l0) (hc0 : l0.length ≤ c0) (h : api_Tag_42.f l0 = some r) :
  Calls Try.prog 42 #[.slice A0 l0.length c0] w fun e w' => ∃ v0_ : Value, e = .returned (v0_) ∧ Kd.R k41 41 w' w.heap.size (fun _ => True) v0_ r ∧ Below w.heap.size w w' := by
 cases A0 with
 | none =>
  have hl : l0 = [] := by
   rcases Nat.eq_zero_or_pos l0.length with hz | hz
   ·exact List.length_eq_zero_iff.1 hz
   ·obtain ⟨_, e, _⟩ := hr0.2.2 hz
    cases e
  subst hl
  have hr : r = [] := by
   have h2 : some ([] : List (S41)) = some r := h
   exact (Option.some.inj h2).symm
  subst hr
  have en := fun (n c : Nat) (w : World) => eql_nil34 none n c w
  clear hr0 h
  go_enter Try.func42, Try.ntmps42
  go_wp2_with fail
  go_ret
  exact ⟨_, rfl, Kd.R_nil _ _ _ _ _, Below.refl _ _⟩
 | some ad0 =>
  have en := fun (n c : Nat) (w : World) => eql_nil34 (some ad0) n c w
  have HR0 := Aside0.mk hr0
  have HC0 := Aside0.mk hc0
  clear hr0 hc0
  have HB := Aside0.mk (Below.refl w.heap.size w)
  have H : ((some (([] : List (S41)) : List (S41))).bind fun y162 => (if y162.length + l0.length < 4398046511104 then (some (y162 ++ l0)) else (none))) = some r := h
  clear h
  obtain ⟨y162, hy162⟩ : ∃ y_ : List (S41), y_ = (([] : List (S41))) := ⟨_, rfl⟩
  replace H : (if y162.length + l0.length < 4398046511104 then (some (y162 ++ l0)) else (none)) = some r := by first | (rw [hy162]; with_reducible exact H) | (have H2_ := (Option.bind_some _ _).symm.trans H; rw [hy162]; with_reducible exact H2_) | (have H2_ := (Option.bind_some _ _).symm.trans H; with_reducible exact H2_) | with_reducible exact H | (rw [hy162]; exact H) | exact H
  have Ny162 := Aside0.mk hy162
  clear hy162
  by_cases c2 : y162.length + l0.length < 4398046511104
  ·rw [if_pos c2] at H
   have LMc2 := Aside0.mk c2
   clear c2
   obtain ⟨y165, hy165⟩ : ∃ y_ : List (S41), y_ = (y162 ++ l0) := ⟨_, rfl⟩
   replace H : (some y165) = some r := by first | (rw [hy165]; with_reducible exact H) | (have H2_ := (Option.bind_some _ _).symm.trans H; rw [hy165]; with_reducible exact H2_) | (have H2_ := (Option.bind_some _ _).symm.trans H; with_reducible exact H2_) | with_reducible exact H | (rw [hy165]; exact H) | exact H
   have Ny165 := Aside0.mk hy165
   clear hy165
   obtain rfl := Option.some.inj H
   go_enter Try.func42, Try.ntmps42
   go_wp2_with (first | ((with_reducible refine gate_dst (N := 5) rfl ?_); refine Kd.R_lit k41 _ 41 ?hg (N := 5) ?hd (xs := ([] : List (S41))) (inner := []) (ok := fun _ => True) (okp := fun _ => True) ?hr ?hp (fun _ hk => hk) trivial (Below.refl _ _) (Nat.le_refl _) (by simp) ?_; (case hd => rfl); (case hg => rfl); (case hr => first | (go_simp; done) | (go_simp; rfl)); (case hp => exact (Reps.none _ _)); intro v163 w3 ho4 hb hg_ hnew_; clear hg_ hnew_; (first | rw [← Ny162.out] at ho4 | (simp only [Int.reduceToNat] at ho4; rw [← Ny162.out] at ho4)); have n0_ := Aside0.mk (Kd.R_lower ho4 (below_size (by repeat (first | (with_reducible first | exact HB.out | apply below_alloc | apply pw_below_drewN | apply below_drew1) | exact HB.out)))); have n1_ := Aside0.mk (below_step (by repeat (first | (with_reducible first | exact HB.out | apply below_alloc | apply pw_below_drewN | apply below_drew1) | exact HB.out)) hb); clear HB; have HO164 := n0_; have HB := n1_; clear n0_ n1_; clear hb ho4) | ((with_reducible refine gate_builtin (b := .append) (xs := #[.tmp 5, .tmp 6]) rfl ?_); at_builtin; refine Kd.R_append_rows k41 (w0 := w) w.heap.size rfl (.tmp 5) (.tmp 6) 34 41 (.agg #[(.string ⟨#[]⟩), (.string ⟨#[]⟩)]) 32 rfl Try.underlying34 info41 rfl (by decide) (by omega) v163 y162 l0 _ _ _ (fun _ => True) (fun _ => False) rfl rfl ?aO ?aR (fun _ _ h => h) (fun _ h => h.elim) ?aF ?aB ?aS ?aL ?_; (case aR => repeat (first | exact (Kd.C_below HR0.out HB.out) | (with_reducible refine Kd.C_alloc ?_ _) | (with_reducible refine Kd.C_drewN ?_ _) | (with_reducible refine Kd.C_drew ?_))); (case aB => exact (by repeat (first | (with_reducible first | exact HB.out | apply below_alloc | apply pw_below_drewN | apply below_drew1) | exact HB.out))); (case aF => exact (fun _ _ => trivial)); (case aO => exact (by (with_reducible repeat (first | apply Kd.R_alloc | apply Kd.R_drewN | apply Kd.R_drew)); exact HO164.out)); (case aS => exact (below_size (by repeat (first | (with_reducible first | exact HB.out | apply below_alloc | apply pw_below_drewN | apply below_drew1) | exact HB.out)))); (case aL => have := LMc2.out; omega); intro v166 w5 ho hb hg hat; rw [← Ny165.out] at ho; have n0_ := Aside0.mk (hb); have n1_ := Aside0.mk (ho); clear HB; clear HO164; have HB := n0_; have HO167 := n1_; clear n0_ n1_; clear ho hb hg hat))
   go_ret
   exact ⟨_, by first | rfl | (simp [errW_none, errW_some] <;> rfl) | (simp [*, errW_none, errW_some] <;> rfl), by (with_reducible repeat (first | apply Kd.R_alloc | apply Kd.R_drewN | apply Kd.R_drew)); exact HO167.out, by repeat (first | (with_reducible first | exact HB.out | apply below_alloc | apply pw_below_drewN | apply below_drew1) | exact HB.out)⟩
  ·rw [if_neg c2] at H
   exact absurd H (by simp)

end Go.Proofs.Ytigchloekolaoaa.PEventTells

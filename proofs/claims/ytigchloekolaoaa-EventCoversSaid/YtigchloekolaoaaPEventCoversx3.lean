-- Laid by the kit's print over bodies of the prover's own for a few functions
import Derived.Test.YtigchloekolaoaaPEventCoversx0
import Derived.Test.YtigchloekolaoaaPEventCoversx2
namespace Go.Proofs.Ytigchloekolaoaa.PEventCovers
open Go.RowKit Go.Proofs.YtigchloekolaoaaW.PrintWords Go.Proofs.YtigchloekolaoaaW.PrintLast Go.Proofs.YtigchloekolaoaaW.PrintMore
attribute [local go_sem] max2_int min2_int max_two min_two max_three min_three max_four min_four   -- for this text's walks alone
set_option linter.unusedVariables false
set_option linter.unusedSimpArgs false

/-! ### forebaylaw21_EventCovers: function 5 -/
mutual
def forebaylaw21_EventCovers.j0 : Nat → List Int → List Int → Int → Bool → Option (Bool)
  | 0, _, _, _, _ => none
  | k + 1, x0, x1, x2, x21 => if x21 = true then ((forebaylaw21_awake.f k).bind fun t142 => (some t142)) else (forebaylaw21_EventCovers.l0 k x0 x1 x2 (([] : List (S46))) 0 0)
def forebaylaw21_EventCovers.l0 : Nat → List Int → List Int → Int → List (S46) → Int → Int → Option (Bool)
  | 0, _, _, _, _, _, _ => none
  | k + 1, x0, x1, x2, x7, x8, x9 => if x9 < (x0.length : Int) then (if (x1.length : Int) > 0 then ((some (([1, 2, 3] : List Int) : List Int)).bind fun y146 => (if (x1.length : Int) = 0 then (none) else (if 0 ≤ (Int.tmod x9 (x1.length : Int)) then (if (Int.tmod x9 (x1.length : Int)) < (x1.length : Int) then (if 0 ≤ (Int.tmod (wrap64 ((Int.tmod (rd x1 (Int.tmod x9 (x1.length : Int))) 3) + 3)) 3) then (if (Int.tmod (wrap64 ((Int.tmod (rd x1 (Int.tmod x9 (x1.length : Int))) 3) + 3)) 3) < (y146.length : Int) then (if 0 ≤ x9 then (if x7.length < 2199023255552 then (forebaylaw21_EventCovers.l0 k x0 x1 x2 (x7 ++ [(⟨rd y146 (Int.tmod (wrap64 ((Int.tmod (rd x1 (Int.tmod x9 (x1.length : Int))) 3) + 3)) 3), x8, wrap64 ((wrap64 (x8 + (Int.tmod (wrap64 ((Int.tmod (rd x0 x9) 50) + 50)) 50))) + 1), ([] : List (S36)), 0, 0⟩ : S46)]) (wrap64 ((wrap64 (x8 + (Int.tmod (wrap64 ((Int.tmod (rd x0 x9) 50) + 50)) 50))) + 1)) (wrap64 (x9 + 1))) else (none)) else (none)) else (none)) else (none)) else (none)) else (none)))) else (if 0 ≤ x9 then (if x7.length < 2199023255552 then (forebaylaw21_EventCovers.l0 k x0 x1 x2 (x7 ++ [(⟨1, x8, wrap64 ((wrap64 (x8 + (Int.tmod (wrap64 ((Int.tmod (rd x0 x9) 50) + 50)) 50))) + 1), ([] : List (S36)), 0, 0⟩ : S46)]) (wrap64 ((wrap64 (x8 + (Int.tmod (wrap64 ((Int.tmod (rd x0 x9) 50) + 50)) 50))) + 1)) (wrap64 (x9 + 1))) else (none)) else (none))) else ((event_Count.f k x7).bind fun bt159 => ((event_Covers.f k x7 x8).bind fun t167 => (if t167 = true then ((event_Covers.f k x7 (wrap64 (x8 + 1))).bind fun t168 => (if t168 = true then (forebaylaw21_EventCovers.j2 k x2 x7 x8 true) else ((event_Covers.f k x7 (wrap64 (x8 - 1))).bind fun t169 => (if t169 = true then (forebaylaw21_EventCovers.j2 k x2 x7 x8 true) else (if (wrap64 ((wrap64 (bt159.2.2.1 + bt159.2.2.2.2.1)) + bt159.2.2.2.2.2.2)) = x8 then (forebaylaw21_EventCovers.j2 k x2 x7 x8 ((wrap64 ((wrap64 (bt159.1 + bt159.2.2.2.1)) + bt159.2.2.2.2.2.1)) != (x7.length : Int))) else (forebaylaw21_EventCovers.j2 k x2 x7 x8 true)))))) else (forebaylaw21_EventCovers.j2 k x2 x7 x8 true))))
def forebaylaw21_EventCovers.j2 : Nat → Int → List (S46) → Int → Bool → Option (Bool)
  | 0, _, _, _, _ => none
  | k + 1, x2, x7, x8, x106 => if x106 = true then (some false) else (if x2 < 0 then (forebaylaw21_EventCovers.j3 k x2 x7 x8 true) else (forebaylaw21_EventCovers.j3 k x2 x7 x8 (decide (x2 ≥ (x7.length : Int)))))
def forebaylaw21_EventCovers.j3 : Nat → Int → List (S46) → Int → Bool → Option (Bool)
  | 0, _, _, _, _ => none
  | k + 1, x2, x7, x8, x114 => if x114 = true then ((forebaylaw21_awake.f k).bind fun t170 => (some t170)) else ((some (([] : List (S46)) : List (S46))).bind fun y171 => (if 0 ≤ x2 then (if x2 ≤ (x7.length : Int) then ((some (x7.take (x2 : Int).toNat : List (S46))).bind fun y174 => (if y171.length + y174.length < 2199023255552 then ((some (y171 ++ y174 : List (S46))).bind fun y179 => (if 0 ≤ (wrap64 (x2 + 1)) then (if (wrap64 (x2 + 1)) ≤ (x7.length : Int) then ((some (x7.drop ((wrap64 (x2 + 1)) : Int).toNat : List (S46))).bind fun y182 => (if y179.length + y182.length < 2199023255552 then ((some (y179 ++ y182 : List (S46))).bind fun y187 => ((event_Covers.f k y187 x8).bind fun t190 => (if t190 = true then (some false) else ((event_Equal.f y187 x7).bind fun t191 => (if t191 = true then (some false) else ((forebaylaw21_awake.f k).bind fun t192 => (some t192))))))) else (none))) else (none)) else (none))) else (none))) else (none)) else (none)))
end
def forebaylaw21_EventCovers.f (k : Nat) (l0 : List Int) (l1 : List Int) (a2 : Int) : Option (Bool) := if (l0.length : Int) > 60 then (forebaylaw21_EventCovers.j0 k l0 l1 a2 true) else (forebaylaw21_EventCovers.j0 k l0 l1 a2 (decide ((l1.length : Int) > 60)))
theorem forebaylaw21_EventCovers.mono_l : ∀ k, (∀ y0 y1 y2 y3, LeO (forebaylaw21_EventCovers.j0 k y0 y1 y2 y3) (forebaylaw21_EventCovers.j0 (k + 1) y0 y1 y2 y3)) ∧ (∀ y0 y1 y2 y3 y4 y5, LeO (forebaylaw21_EventCovers.l0 k y0 y1 y2 y3 y4 y5) (forebaylaw21_EventCovers.l0 (k + 1) y0 y1 y2 y3 y4 y5)) ∧ (∀ y0 y1 y2 y3, LeO (forebaylaw21_EventCovers.j2 k y0 y1 y2 y3) (forebaylaw21_EventCovers.j2 (k + 1) y0 y1 y2 y3)) ∧ (∀ y0 y1 y2 y3, LeO (forebaylaw21_EventCovers.j3 k y0 y1 y2 y3) (forebaylaw21_EventCovers.j3 (k + 1) y0 y1 y2 y3))
  | 0 => ⟨fun _ _ _ _ r h => by simp [forebaylaw21_EventCovers.j0] at h, fun _ _ _ _ _ _ r h => by simp [forebaylaw21_EventCovers.l0] at h, fun _ _ _ _ r h => by simp [forebaylaw21_EventCovers.j2] at h, fun _ _ _ _ r h => by simp [forebaylaw21_EventCovers.j3] at h⟩
  | k + 1 => by
    obtain ⟨ih0, ih1, ih2, ih3⟩ := forebaylaw21_EventCovers.mono_l k
    refine ⟨?_, ?_, ?_, ?_⟩
    · intro y0 y1 y2 y3
      unfold forebaylaw21_EventCovers.j0
      repeat' first
      | (with_reducible exact ih0 _ _ _ _)
      | (with_reducible exact ih1 _ _ _ _ _ _)
      | (with_reducible exact ih2 _ _ _ _)
      | (with_reducible exact ih3 _ _ _ _)
      | (with_reducible exact event_Count.mono _ _)
      | (with_reducible exact event_Covers.mono _ _ _)
      | (with_reducible exact forebaylaw21_awake.mono _)
      | (with_reducible exact LeO.refl _)
      | (with_reducible exact LeO.none _)
      | (with_reducible refine LeO.ite ?_ ?_)
      | (with_reducible refine LeO.bind ?_ (fun _ => ?_))
      | exact ih0 _ _ _ _
      | exact ih1 _ _ _ _ _ _
      | exact ih2 _ _ _ _
      | exact ih3 _ _ _ _
      | exact event_Count.mono _ _
      | exact event_Covers.mono _ _ _
      | exact forebaylaw21_awake.mono _
      | exact LeO.none _
      | refine LeO.ite ?_ ?_
      | refine LeO.bind ?_ (fun _ => ?_)
    · intro y0 y1 y2 y3 y4 y5
      unfold forebaylaw21_EventCovers.l0
      repeat' first
      | (with_reducible exact ih0 _ _ _ _)
      | (with_reducible exact ih1 _ _ _ _ _ _)
      | (with_reducible exact ih2 _ _ _ _)
      | (with_reducible exact ih3 _ _ _ _)
      | (with_reducible exact event_Count.mono _ _)
      | (with_reducible exact event_Covers.mono _ _ _)
      | (with_reducible exact forebaylaw21_awake.mono _)
      | (with_reducible exact LeO.refl _)
      | (with_reducible exact LeO.none _)
      | (with_reducible refine LeO.ite ?_ ?_)
      | (with_reducible refine LeO.bind ?_ (fun _ => ?_))
      | exact ih0 _ _ _ _
      | exact ih1 _ _ _ _ _ _
      | exact ih2 _ _ _ _
      | exact ih3 _ _ _ _
      | exact event_Count.mono _ _
      | exact event_Covers.mono _ _ _
      | exact forebaylaw21_awake.mono _
      | exact LeO.none _
      | refine LeO.ite ?_ ?_
      | refine LeO.bind ?_ (fun _ => ?_)
    · intro y0 y1 y2 y3
      unfold forebaylaw21_EventCovers.j2
      repeat' first
      | (with_reducible exact ih0 _ _ _ _)
      | (with_reducible exact ih1 _ _ _ _ _ _)
      | (with_reducible exact ih2 _ _ _ _)
      | (with_reducible exact ih3 _ _ _ _)
      | (with_reducible exact event_Count.mono _ _)
      | (with_reducible exact event_Covers.mono _ _ _)
      | (with_reducible exact forebaylaw21_awake.mono _)
      | (with_reducible exact LeO.refl _)
      | (with_reducible exact LeO.none _)
      | (with_reducible refine LeO.ite ?_ ?_)
      | (with_reducible refine LeO.bind ?_ (fun _ => ?_))
      | exact ih0 _ _ _ _
      | exact ih1 _ _ _ _ _ _
      | exact ih2 _ _ _ _
      | exact ih3 _ _ _ _
      | exact event_Count.mono _ _
      | exact event_Covers.mono _ _ _
      | exact forebaylaw21_awake.mono _
      | exact LeO.none _
      | refine LeO.ite ?_ ?_
      | refine LeO.bind ?_ (fun _ => ?_)
    · intro y0 y1 y2 y3
      unfold forebaylaw21_EventCovers.j3
      repeat' first
      | (with_reducible exact ih0 _ _ _ _)
      | (with_reducible exact ih1 _ _ _ _ _ _)
      | (with_reducible exact ih2 _ _ _ _)
      | (with_reducible exact ih3 _ _ _ _)
      | (with_reducible exact event_Count.mono _ _)
      | (with_reducible exact event_Covers.mono _ _ _)
      | (with_reducible exact forebaylaw21_awake.mono _)
      | (with_reducible exact LeO.refl _)
      | (with_reducible exact LeO.none _)
      | (with_reducible refine LeO.ite ?_ ?_)
      | (with_reducible refine LeO.bind ?_ (fun _ => ?_))
      | exact ih0 _ _ _ _
      | exact ih1 _ _ _ _ _ _
      | exact ih2 _ _ _ _
      | exact ih3 _ _ _ _
      | exact event_Count.mono _ _
      | exact event_Covers.mono _ _ _
      | exact forebaylaw21_awake.mono _
      | exact LeO.none _
      | refine LeO.ite ?_ ?_
      | refine LeO.bind ?_ (fun _ => ?_)
theorem forebaylaw21_EventCovers.mono : ∀ a0 a1 a2 k, LeO (forebaylaw21_EventCovers.f k a0 a1 a2) (forebaylaw21_EventCovers.f (k + 1) a0 a1 a2) := by
  intro a0 a1 a2 k
  obtain ⟨ih0, ih1, ih2, ih3⟩ := forebaylaw21_EventCovers.mono_l k
  unfold forebaylaw21_EventCovers.f
  repeat' first
      | (with_reducible exact ih0 _ _ _ _)
      | (with_reducible exact ih1 _ _ _ _ _ _)
      | (with_reducible exact ih2 _ _ _ _)
      | (with_reducible exact ih3 _ _ _ _)
      | (with_reducible exact event_Count.mono _ _)
      | (with_reducible exact event_Covers.mono _ _ _)
      | (with_reducible exact forebaylaw21_awake.mono _)
      | (with_reducible exact LeO.refl _)
      | (with_reducible exact LeO.none _)
      | (with_reducible refine LeO.ite ?_ ?_)
      | (with_reducible refine LeO.bind ?_ (fun _ => ?_))
      | exact ih0 _ _ _ _
      | exact ih1 _ _ _ _ _ _
      | exact ih2 _ _ _ _
      | exact ih3 _ _ _ _
      | exact event_Count.mono _ _
      | exact event_Covers.mono _ _ _
      | exact forebaylaw21_awake.mono _
      | exact LeO.none _
      | refine LeO.ite ?_ ?_
      | refine LeO.bind ?_ (fun _ => ?_)
def forebaylaw21_EventCovers.T19 : Bool × List (List Nat × List Nat) := (true, [([], []), ([], []), ([], []), ([1, 2], [1, 2]), ([0, 3], [0, 3]), ([], []), ([], []), ([6], [6]), ([5, 7], [5, 7]), ([4, 8, 4], [4, 8]), ([9, 9, 0, 1, 2, 3, 4, 5, 6, 7, 8, 9], [9])])
def forebaylaw21_EventCovers.B19 : List Nat := [0, 0, 0, 6, 15, 0, 0, 64, 224, 511, 1023]
theorem forebaylaw21_EventCovers.tab19 : rtab .any (opsOf Try.f5 19) = forebaylaw21_EventCovers.T19 := by kernel_rfl
theorem forebaylaw21_EventCovers.bits19 : waitsOk forebaylaw21_EventCovers.T19.2 forebaylaw21_EventCovers.B19 = true := by kernel_rfl
set_option maxHeartbeats 8000000 in
set_option maxRecDepth 100000 in
theorem forebaylaw21_EventCovers.calls (k : Nat) (A0 : Option Addr) (c0 : Nat) (l0 : List Int) (A1 : Option Addr) (c1 : Nat) (l1 : List Int) (a2 : Int) (r : Bool) (w : World) (hr0 : Kd.C (Kd.int .i64) w A0 l0.length l0) (hc0 : l0.length ≤ c0) (hr1 : Kd.C (Kd.int .i64) w A1 l1.length l1) (hc1 : l1.length ≤ c1) (h : forebaylaw21_EventCovers.f k l0 l1 a2 = some r) :
    Calls Try.prog 5 #[.slice A0 l0.length c0, .slice A1 l1.length c1, .int .i64 a2] w fun e w' => e = .returned (.bool r) ∧ Below w.heap.size w w' := by
  have hu46 := Try.underlying46
  have hu24 := Try.underlying24
  have HR0 := Aside0.mk hr0
  have HC0 := Aside0.mk hc0
  clear hr0 hc0
  have HR1 := Aside0.mk hr1
  have HC1 := Aside0.mk hc1
  clear hr1 hc1
  have HB := Aside0.mk (Below.refl w.heap.size w)
  have H : (if (l0.length : Int) > 60 then (forebaylaw21_EventCovers.j0 k l0 l1 a2 true) else (forebaylaw21_EventCovers.j0 k l0 l1 a2 (decide ((l1.length : Int) > 60)))) = some r := h
  clear h
  have HC4 := Aside0.mk H
  clear H
  go_enter Try.func5, Try.ntmps5
  go_upto_region 1 with (fail)
  go_cut [21] (fun v21 wc => ∃ (kq : Nat) (x21_3 : Bool), v21 = .bool x21_3 ∧ Aside0 (forebaylaw21_EventCovers.j0 kq l0 l1 a2 x21_3 = some r) ∧ Aside0 (kq ≤ k) ∧ Aside0 (Below w.heap.size w wc))
  case first =>
    have H := HC4.out
    clear HC4
    by_cases c5 : (l0.length : Int) > 60
    · rw [if_pos c5] at H
      have c5b0 : decide (60 < (l0.length : Int)) = true := decide_eq_true c5
      have c5b1 : decide (60 < l0.length) = true := decide_eq_true (by omega)
      clear c5
      (first | rw [c5b0] | (simp only [i64_w, i32_w]; rw [c5b0]) | skip)
      have H' := Aside0.mk H
      clear H
      go_wp2
      go_meet
      case rel => exact ⟨_, (true), (by first | rfl | (simp; done) | (simp [*]; done)), H', ⟨by first | omega | exact Nat.le_refl _⟩, ⟨by repeat (first | (with_reducible first | exact HB.out | apply below_alloc | apply pw_below_drewN | apply below_drew1) | exact HB.out)⟩⟩
    · rw [if_neg c5] at H
      have c5b0 : decide (60 < (l0.length : Int)) = false := decide_eq_false c5
      have c5b1 : decide (60 < l0.length) = false := decide_eq_false (by omega)
      clear c5
      (first | rw [c5b0] | (simp only [i64_w, i32_w]; rw [c5b0]) | skip)
      have H' := Aside0.mk H
      clear H
      go_wp2
      go_meet
      case rel => exact ⟨_, (decide ((l1.length : Int) > 60)), (by first | rfl | (simp; done) | (simp [*]; done)), H', ⟨by first | omega | exact Nat.le_refl _⟩, ⟨by repeat (first | (with_reducible first | exact HB.out | apply below_alloc | apply pw_below_drewN | apply below_drew1) | exact HB.out)⟩⟩
  case rest =>
    clear HC4
    try clear c1
    try clear p2
    try clear c5
    try clear c5b0
    try clear c5b1
    obtain ⟨kq, x21_3, rfl, HA, HJ3, HB⟩ := hcut
    cases kq with
    | zero => exact absurd HA.out (by simp [forebaylaw21_EventCovers.j0])
    | succ kj3 =>
      have H := HA.out
      clear HA
      simp only [forebaylaw21_EventCovers.j0] at H
      by_cases c6 : x21_3 = true
      · subst c6
        have H1 : ((forebaylaw21_awake.f kj3).bind fun t142 => (some t142)) = some r := by rw [if_pos rfl] at H; exact H
        clear H
        have H := H1
        clear H1
        replace H := Option.bind_eq_some_iff.mp H
        obtain ⟨t142, A70, H⟩ := H
        replace H : (some t142) = some r := H
        have A7 := Aside0.mk A70
        clear A70
        obtain rfl := Option.some.inj H
        go_wp2_with (first | ((with_reducible refine gate_callee (f := 10) rfl ?_); refine goesL_ (some 22) rfl rfl Try.func10 (by kernel_rfl) rfl #[] rfl (by (try simp only [List.map_toArray, List.map_cons, List.map_nil]); first | done | rfl | (simp only [List.length_drop, List.length_take]; rfl)) ?_; (with_reducible refine (forebaylaw21_awake.calls kj3  t142 _ A7.out).mono ?_); rintro e w8 ⟨rfl, hb⟩; refine ⟨_, rfl, ?_⟩; have n0_ := Aside0.mk (below_step (by repeat (first | (with_reducible first | exact HB.out | apply below_alloc | apply pw_below_drewN | apply below_drew1) | exact HB.out)) hb); clear HB; have HB := n0_; clear n0_; (try clear hb); (try clear hb2); (try clear hk); (try clear hi)))
        go_ret
        exact ⟨by first | rfl | (simp [errW_none, errW_some] <;> rfl) | (simp [*, errW_none, errW_some] <;> rfl), by repeat (first | (with_reducible first | exact HB.out | apply below_alloc | apply pw_below_drewN | apply below_drew1) | exact HB.out)⟩
      · replace c6 := Bool.eq_false_iff.mpr c6
        subst c6
        have H1 : (forebaylaw21_EventCovers.l0 kj3 l0 l1 a2 (([] : List (S46))) 0 0) = some r := by rw [if_neg (show ¬ (false = true) by decide)] at H; exact H
        clear H
        have H := H1
        clear H1
        obtain ⟨y143, hy143⟩ : ∃ y_ : List (S46), y_ = (([] : List (S46))) := ⟨_, rfl⟩
        replace H : (forebaylaw21_EventCovers.l0 kj3 l0 l1 a2 y143 0 0) = some r := by first | (rw [hy143]; with_reducible exact H) | (have H2_ := (Option.bind_some _ _).symm.trans H; rw [hy143]; with_reducible exact H2_) | (have H2_ := (Option.bind_some _ _).symm.trans H; with_reducible exact H2_) | with_reducible exact H | (rw [hy143]; exact H) | exact H
        have Ny143 := Aside0.mk hy143
        clear hy143
        have H' := Aside0.mk H
        clear H
        go_wp2_with (first | ((with_reducible refine gate_dst (N := 23) rfl ?_); (try (refine gate_guard (by rfl) ?_; dsimp only)); refine Kd.N_lit k46 _ 46 ?hg (N' := 23) ?hd (xs := ([] : List (S46))) (inner := []) (ok := (fun _ => True)) (okp := (fun _ => True)) ?hr ?hp (fun _ hk => hk) ((show ∀ k_, wc.heap.size ≤ k_ → (fun _ => True) k_ from fun k_ hk => trivial) _ (Nat.le_refl _)) (Below.refl _ _) (Nat.le_refl _) (by simp) ?_; (case hd => rfl); (case hg => rfl); (case hr => first | (go_simp; done) | (go_simp; rfl)); (case hp => exact (Reps.none _ _)); intro v144 w9 ho10 hb hg_ hnew_; clear hg_ hnew_; (first | rw [← Ny143.out] at ho10 | (simp only [Int.reduceToNat] at ho10; rw [← Ny143.out] at ho10)); have n0_ := Aside0.mk (Kd.N_lower ho10 (below_size (by repeat (first | (with_reducible first | exact HB.out | apply below_alloc | apply pw_below_drewN | apply below_drew1) | exact HB.out)))); have n1_ := Aside0.mk (below_step (by repeat (first | (with_reducible first | exact HB.out | apply below_alloc | apply pw_below_drewN | apply below_drew1) | exact HB.out)) hb); clear HB; have HO145 := n0_; have HB := n1_; clear n0_ n1_; clear hb ho10))
        go_loopg [7, 8, 9] kj3 (fun kq v7 v8 v9 w' => ∃ (x7_2 : List (S46)) (x8_2 : Int) (x9_2 : Int), v8 = .int .i64 x8_2 ∧ v9 = .int .i64 x9_2 ∧ Aside0 (forebaylaw21_EventCovers.l0 kq l0 l1 a2 x7_2 x8_2 x9_2 = some r) ∧ Aside0 (kq ≤ kj3) ∧ Aside0 (Kd.N k46 46 w' w.heap.size (fun _ => True) v7 x7_2) ∧ Aside0 (Below w.heap.size w w'))
        case atStart => exact ⟨(y143), (0), (0), (by first | rfl | (simp; done) | (simp [*]; done)), (by first | rfl | (simp; done) | (simp [*]; done)), H', ⟨Nat.le_refl _⟩, ⟨by (with_reducible repeat (first | apply Kd.N_alloc | apply Kd.N_drewN | apply Kd.N_drew)); exact HO145.out⟩, ⟨by repeat (first | (with_reducible first | exact HB.out | apply below_alloc | apply pw_below_drewN | apply below_drew1) | exact HB.out)⟩⟩
        case round =>
          clear H'
          try clear c1
          try clear p2
          try clear c5
          try clear c5b0
          try clear c5b1
          try clear c6
          try clear c10
          try clear p2
          obtain ⟨x7_2, x8_2, x9_2, rfl, rfl, HA, HK2, HO_7, HB⟩ := hrel
          cases gk with
          | zero => exact absurd HA.out (by simp [forebaylaw21_EventCovers.l0])
          | succ k2 =>
            have H := HA.out
            clear HA
            simp only [forebaylaw21_EventCovers.l0] at H
            by_cases c11 : x9_2 < (l0.length : Int)
            · rw [if_pos c11] at H
              have c11b0 : decide (x9_2 < (l0.length : Int)) = true := decide_eq_true c11
              clear c11
              by_cases c12 : (l1.length : Int) > 0
              · rw [if_pos c12] at H
                have c12b0 : decide (0 < (l1.length : Int)) = true := decide_eq_true c12
                have c12b1 : decide (0 < l1.length) = true := decide_eq_true (by omega)
                clear c12
                obtain ⟨y146, hy146⟩ : ∃ y_ : List Int, y_ = (([1, 2, 3] : List Int)) := ⟨_, rfl⟩
                replace H : (if (l1.length : Int) = 0 then (none) else (if 0 ≤ (Int.tmod x9_2 (l1.length : Int)) then (if (Int.tmod x9_2 (l1.length : Int)) < (l1.length : Int) then (if 0 ≤ (Int.tmod (wrap64 ((Int.tmod (rd l1 (Int.tmod x9_2 (l1.length : Int))) 3) + 3)) 3) then (if (Int.tmod (wrap64 ((Int.tmod (rd l1 (Int.tmod x9_2 (l1.length : Int))) 3) + 3)) 3) < (y146.length : Int) then (if 0 ≤ x9_2 then (if x7_2.length < 2199023255552 then (forebaylaw21_EventCovers.l0 k2 l0 l1 a2 (x7_2 ++ [(⟨rd y146 (Int.tmod (wrap64 ((Int.tmod (rd l1 (Int.tmod x9_2 (l1.length : Int))) 3) + 3)) 3), x8_2, wrap64 ((wrap64 (x8_2 + (Int.tmod (wrap64 ((Int.tmod (rd l0 x9_2) 50) + 50)) 50))) + 1), ([] : List (S36)), 0, 0⟩ : S46)]) (wrap64 ((wrap64 (x8_2 + (Int.tmod (wrap64 ((Int.tmod (rd l0 x9_2) 50) + 50)) 50))) + 1)) (wrap64 (x9_2 + 1))) else (none)) else (none)) else (none)) else (none)) else (none)) else (none))) = some r := by first | (rw [hy146]; with_reducible exact H) | (have H2_ := (Option.bind_some _ _).symm.trans H; rw [hy146]; with_reducible exact H2_) | (have H2_ := (Option.bind_some _ _).symm.trans H; with_reducible exact H2_) | with_reducible exact H | (rw [hy146]; exact H) | exact H
                have Ny146 := Aside0.mk hy146
                clear hy146
                by_cases c13 : (l1.length : Int) = 0
                · rw [if_pos c13] at H
                  exact absurd H (by simp)
                · rw [if_neg c13] at H
                  have c13b0 : ((l1.length : Int) == 0) = false := beq_eq_false_iff_ne.mpr c13
                  have c13b1 : ((l1.length : Int) != 0) = true := bne_iff_ne.mpr c13
                  have c13b2 : ¬ (l1 = []) := fun h_ => c13 (by rw [h_]; rfl)
                  obtain ⟨ji14, hji14⟩ : ∃ j_ : Int, (Int.tmod x9_2 (l1.length : Int)) = j_ := ⟨_, rfl⟩
                  replace H : (if 0 ≤ (ji14) then (if (ji14) < (l1.length : Int) then (if 0 ≤ (Int.tmod (wrap64 ((Int.tmod (rd l1 (ji14)) 3) + 3)) 3) then (if (Int.tmod (wrap64 ((Int.tmod (rd l1 (ji14)) 3) + 3)) 3) < (y146.length : Int) then (if 0 ≤ x9_2 then (if x7_2.length < 2199023255552 then (forebaylaw21_EventCovers.l0 k2 l0 l1 a2 (x7_2 ++ [(⟨rd y146 (Int.tmod (wrap64 ((Int.tmod (rd l1 (ji14)) 3) + 3)) 3), x8_2, wrap64 ((wrap64 (x8_2 + (Int.tmod (wrap64 ((Int.tmod (rd l0 x9_2) 50) + 50)) 50))) + 1), ([] : List (S36)), 0, 0⟩ : S46)]) (wrap64 ((wrap64 (x8_2 + (Int.tmod (wrap64 ((Int.tmod (rd l0 x9_2) 50) + 50)) 50))) + 1)) (wrap64 (x9_2 + 1))) else (none)) else (none)) else (none)) else (none)) else (none)) else (none)) = some r := by first | (rw [hji14] at H; exact H) | (simp only [hji14] at H ⊢; exact H)
                  by_cases c15 : 0 ≤ (ji14)
                  · rw [if_pos c15] at H
                    have c15b0 : decide (0 ≤ (ji14)) = true := decide_eq_true c15
                    clear c15
                    by_cases c16 : (ji14) < (l1.length : Int)
                    · rw [if_pos c16] at H
                      have c16b0 : decide ((ji14) < (l1.length : Int)) = true := decide_eq_true c16
                      clear c16
                      obtain ⟨ji17, hji17⟩ : ∃ j_ : Int, (Int.tmod (wrap64 ((Int.tmod (rd l1 (ji14)) 3) + 3)) 3) = j_ := ⟨_, rfl⟩
                      replace H : (if 0 ≤ (ji17) then (if (ji17) < (y146.length : Int) then (if 0 ≤ x9_2 then (if x7_2.length < 2199023255552 then (forebaylaw21_EventCovers.l0 k2 l0 l1 a2 (x7_2 ++ [(⟨rd y146 (ji17), x8_2, wrap64 ((wrap64 (x8_2 + (Int.tmod (wrap64 ((Int.tmod (rd l0 x9_2) 50) + 50)) 50))) + 1), ([] : List (S36)), 0, 0⟩ : S46)]) (wrap64 ((wrap64 (x8_2 + (Int.tmod (wrap64 ((Int.tmod (rd l0 x9_2) 50) + 50)) 50))) + 1)) (wrap64 (x9_2 + 1))) else (none)) else (none)) else (none)) else (none)) = some r := by first | (rw [hji17] at H; exact H) | (simp only [hji17] at H ⊢; exact H)
                      by_cases c18 : 0 ≤ (ji17)
                      · rw [if_pos c18] at H
                        have c18b0 : decide (0 ≤ (ji17)) = true := decide_eq_true c18
                        clear c18
                        by_cases c19 : (ji17) < (y146.length : Int)
                        · rw [if_pos c19] at H
                          have c19b0 : decide ((ji17) < (y146.length : Int)) = true := decide_eq_true c19
                          clear c19
                          by_cases c20 : 0 ≤ x9_2
                          · rw [if_pos c20] at H
                            have c20b0 : decide (0 ≤ x9_2) = true := decide_eq_true c20
                            clear c20
                            by_cases c21 : x7_2.length < 2199023255552
                            · rw [if_pos c21] at H
                              have LMc21 := Aside0.mk c21
                              clear c21
                              obtain ⟨y152, hy152⟩ : ∃ y_ : List (S46), y_ = (x7_2 ++ [(⟨rd y146 (ji17), x8_2, wrap64 ((wrap64 (x8_2 + (Int.tmod (wrap64 ((Int.tmod (rd l0 x9_2) 50) + 50)) 50))) + 1), ([] : List (S36)), 0, 0⟩ : S46)]) := ⟨_, rfl⟩
                              replace H : (forebaylaw21_EventCovers.l0 k2 l0 l1 a2 y152 (wrap64 ((wrap64 (x8_2 + (Int.tmod (wrap64 ((Int.tmod (rd l0 x9_2) 50) + 50)) 50))) + 1)) (wrap64 (x9_2 + 1))) = some r := by first | (rw [hy152]; with_reducible exact H) | (have H2_ := (Option.bind_some _ _).symm.trans H; rw [hy152]; with_reducible exact H2_) | (have H2_ := (Option.bind_some _ _).symm.trans H; with_reducible exact H2_) | with_reducible exact H | (rw [hy152]; exact H) | exact H
                              have Ny152 := Aside0.mk hy152
                              clear hy152
                              have H' := Aside0.mk H
                              clear H
                              go_wp2_with (first | ((with_reducible refine gate_dst (N := 33) rfl ?_); (try (refine gate_guard (by rfl) ?_; dsimp only)); refine Kd.R_lit (Kd.int .i64) _ 3 ?hg (N := 33) ?hd (xs := ([1, 2, 3] : List Int)) (inner := [.int .i64 1, .int .i64 2, .int .i64 3]) (ok := fun _ => True) (okp := fun _ => True) ?hr ?hp (fun _ hk => hk) trivial (Below.refl _ _) (Nat.le_refl _) (by simp) ?_; (case hd => rfl); (case hg => rfl); (case hr => first | (go_simp; done) | (go_simp; rfl)); (case hp => exact (Reps.one (show Kd.M (Kd.int .i64) _ _ _ 1 [.int .i64 1] from rfl) (Reps.one (show Kd.M (Kd.int .i64) _ _ _ 2 [.int .i64 2] from rfl) (Reps.one (show Kd.M (Kd.int .i64) _ _ _ 3 [.int .i64 3] from rfl) (Reps.none _ _))))); intro v147 w22 ho23 hb hg_ hnew_; clear hg_ hnew_; (first | rw [← Ny146.out] at ho23 | (simp only [Int.reduceToNat] at ho23; rw [← Ny146.out] at ho23)); have n0_ := Aside0.mk (Kd.N_elder' (by (with_reducible repeat (first | apply Kd.N_alloc | apply Kd.N_drewN | apply Kd.N_drew)); exact HO_7.out) (Kd.R_base ho23) hb); have n1_ := Aside0.mk (Kd.R_lower ho23 (below_size (by repeat (first | (with_reducible first | exact HB.out | apply below_alloc | apply pw_below_drewN | apply below_drew1) | exact HB.out)))); have n2_ := Aside0.mk (below_step (by repeat (first | (with_reducible first | exact HB.out | apply below_alloc | apply pw_below_drewN | apply below_drew1) | exact HB.out)) hb); clear HO_7; clear HB; have HO_7 := n0_; have HO148 := n1_; have HB := n2_; clear n0_ n1_ n2_; clear hb ho23; have p149 : 0 ≤ ((ji14) : Int) := of_decide_eq_true (by first | (with_reducible assumption) | assumption); have q149 : (ji14) < (l1.length : Int) := of_decide_eq_true (by first | (with_reducible assumption) | assumption); obtain ⟨ad149, e149, hx149_0⟩ := Kd.at_int HR1.out (ji14) p149 q149; cases e149; replace hx149_0 := (HB.out.cell (World.block_lt_of_cell? w _ hx149_0)).trans hx149_0; replace p149 := eq_true p149; replace q149 := eq_true q149; obtain ⟨Ao24, co24, eo24⟩ := Kd.R_slice HO148.out; subst eo24; have p150 : 0 ≤ ((ji17) : Int) := of_decide_eq_true (by first | (with_reducible assumption) | assumption); have q150 : (ji17) < (y146.length : Int) := of_decide_eq_true (by first | (with_reducible assumption) | assumption); obtain ⟨ad150, e150, hx150_0⟩ := Kd.at_int (Kd.R_reads' HO148.out).2.2 (ji17) p150 q150; cases e150; replace p150 := eq_true p150; replace q150 := eq_true q150; have p151 : 0 ≤ (x9_2 : Int) := of_decide_eq_true (by first | (with_reducible assumption) | assumption); have q151 : x9_2 < (l0.length : Int) := of_decide_eq_true (by first | (with_reducible assumption) | assumption); obtain ⟨ad151, e151, hx151_0⟩ := Kd.at_int HR0.out x9_2 p151 q151; cases e151; replace hx151_0 := (HB.out.cell (World.block_lt_of_cell? w _ hx151_0)).trans hx151_0; replace p151 := eq_true p151; replace q151 := eq_true q151) | ((with_reducible refine gate_builtin (b := .append) (xs := #[.tmp 56, .tmp 61]) rfl ?_); (try (refine gate_guard (by rfl) ?_; dsimp only)); at_builtin; refine Kd.N_append k46 (w0 := w) w.heap.size rfl (.tmp 56) (.tmp 61) 22 46 (.agg #[(.int .i64 0), (.int .i64 0), (.int .i64 0), (.slice none 0 0), (.int .i64 0), (.int .i64 0)]) 64 rfl Try.underlying22 info46 rfl (by decide) (by omega) u7 x7_2 (⟨rd y146 (ji17), x8_2, wrap64 ((wrap64 (x8_2 + (Int.tmod (wrap64 ((Int.tmod (rd l0 x9_2) 50) + 50)) 50))) + 1), ([] : List (S36)), 0, 0⟩ : S46) [.int .i64 (rd y146 (ji17)), .int .i64 x8_2, .int .i64 (wrap64 ((wrap64 (x8_2 + (Int.tmod (wrap64 ((Int.tmod (rd l0 x9_2) 50) + 50)) 50))) + 1)), .slice none 0 0, .int .i64 0, .int .i64 0] (fun k_ => some k_ ≠ (.slice (some ad150) y146.length co24 : Value).ownBlock) (fun k_ => ((fun k_ => some k_ ≠ (.slice (some ad150) y146.length co24 : Value).ownBlock)) k_ ∧ some k_ ≠ (u7 : Value).ownBlock) rfl rfl ?aP (fun _ hk => hk) ?aF ?aO ?aB ?aS ?aL ?_; (case aP => exact (k46_mkF _ _ (⟨rd y146 (ji17), x8_2, wrap64 ((wrap64 (x8_2 + (Int.tmod (wrap64 ((Int.tmod (rd l0 x9_2) 50) + 50)) 50))) + 1), ([] : List (S36)), 0, 0⟩ : S46) (Nat.le_refl _) (Kd.F_nil _ _ _))); (case aB => exact (by repeat (first | (with_reducible first | exact HB.out | apply below_alloc | apply pw_below_drewN | apply below_drew1) | exact HB.out))); (case aF => exact (fun k_ hk => Kd.fresh' (Kd.R_lt (by (with_reducible repeat (first | apply Kd.R_alloc | apply Kd.R_drewN | apply Kd.R_drew)); exact HO148.out)) k_ hk)); (case aO => exact (by (with_reducible repeat (first | apply Kd.N_alloc | apply Kd.N_drewN | apply Kd.N_drew)); exact Kd.N_mono HO_7.out (fun _ hk => hk.2))); (case aS => exact (below_size (by repeat (first | (with_reducible first | exact HB.out | apply below_alloc | apply pw_below_drewN | apply below_drew1) | exact HB.out)))); (case aL => have := LMc21.out; omega); intro v153 w25 ho hb hg hat; rw [← Ny152.out] at ho; have n0_ := Aside0.mk (Kd.R_over' (by (with_reducible repeat (first | apply Kd.R_alloc | apply Kd.R_drewN | apply Kd.R_drew)); exact HO148.out) (Kd.N_typed (by (with_reducible repeat (first | apply Kd.N_alloc | apply Kd.N_drewN | apply Kd.N_drew)); exact HO_7.out)) (by decide) hg); have n1_ := Aside0.mk (hb); have n2_ := Aside0.mk (ho); clear HO148; clear HB; clear HO_7; have HO148 := n0_; have HB := n1_; have HO154 := n2_; clear n0_ n1_ n2_; clear ho hb hg hat))
                              go_roundg k2
                              case measure => have := HJ3.out; have := HK2.out; omega
                              case rel => exact ⟨(y152), (wrap64 ((wrap64 (x8_2 + (Int.tmod (wrap64 ((Int.tmod (rd l0 x9_2) 50) + 50)) 50))) + 1)), (wrap64 (x9_2 + 1)), (by first | rfl | (simp; done) | (simp [*]; done)), (by first | rfl | (simp; done) | (simp [*]; done)), H', ⟨by have := HJ3.out; have := HK2.out; omega⟩, ⟨by (with_reducible repeat (first | apply Kd.N_alloc | apply Kd.N_drewN | apply Kd.N_drew)); exact Kd.N_mono HO154.out (fun _ hk => trivial)⟩, ⟨by repeat (first | (with_reducible first | exact HB.out | apply below_alloc | apply pw_below_drewN | apply below_drew1) | exact HB.out)⟩⟩
                            · rw [if_neg c21] at H
                              exact absurd H (by simp)
                          · rw [if_neg c20] at H
                            exact absurd H (by simp)
                        · rw [if_neg c19] at H
                          exact absurd H (by simp)
                      · rw [if_neg c18] at H
                        exact absurd H (by simp)
                    · rw [if_neg c16] at H
                      exact absurd H (by simp)
                  · rw [if_neg c15] at H
                    exact absurd H (by simp)
              · rw [if_neg c12] at H
                have c12b0 : decide (0 < (l1.length : Int)) = false := decide_eq_false c12
                have c12b1 : decide (0 < l1.length) = false := decide_eq_false (by omega)
                clear c12
                by_cases c26 : 0 ≤ x9_2
                · rw [if_pos c26] at H
                  have c26b0 : decide (0 ≤ x9_2) = true := decide_eq_true c26
                  clear c26
                  by_cases c27 : x7_2.length < 2199023255552
                  · rw [if_pos c27] at H
                    have LMc27 := Aside0.mk c27
                    clear c27
                    obtain ⟨y156, hy156⟩ : ∃ y_ : List (S46), y_ = (x7_2 ++ [(⟨1, x8_2, wrap64 ((wrap64 (x8_2 + (Int.tmod (wrap64 ((Int.tmod (rd l0 x9_2) 50) + 50)) 50))) + 1), ([] : List (S36)), 0, 0⟩ : S46)]) := ⟨_, rfl⟩
                    replace H : (forebaylaw21_EventCovers.l0 k2 l0 l1 a2 y156 (wrap64 ((wrap64 (x8_2 + (Int.tmod (wrap64 ((Int.tmod (rd l0 x9_2) 50) + 50)) 50))) + 1)) (wrap64 (x9_2 + 1))) = some r := by first | (rw [hy156]; with_reducible exact H) | (have H2_ := (Option.bind_some _ _).symm.trans H; rw [hy156]; with_reducible exact H2_) | (have H2_ := (Option.bind_some _ _).symm.trans H; with_reducible exact H2_) | with_reducible exact H | (rw [hy156]; exact H) | exact H
                    have Ny156 := Aside0.mk hy156
                    clear hy156
                    have H' := Aside0.mk H
                    clear H
                    have p155 : 0 ≤ (x9_2 : Int) := of_decide_eq_true (by first | (with_reducible assumption) | assumption)
                    have q155 : x9_2 < (l0.length : Int) := of_decide_eq_true (by first | (with_reducible assumption) | assumption)
                    obtain ⟨ad155, e155, hx155_0⟩ := Kd.at_int HR0.out x9_2 p155 q155
                    cases e155
                    replace hx155_0 := (HB.out.cell (World.block_lt_of_cell? w _ hx155_0)).trans hx155_0
                    replace p155 := eq_true p155
                    replace q155 := eq_true q155
                    go_wp2_with (first | ((with_reducible refine gate_builtin (b := .append) (xs := #[.tmp 56, .tmp 61]) rfl ?_); (try (refine gate_guard (by rfl) ?_; dsimp only)); at_builtin; refine Kd.N_append k46 (w0 := w) w.heap.size rfl (.tmp 56) (.tmp 61) 22 46 (.agg #[(.int .i64 0), (.int .i64 0), (.int .i64 0), (.slice none 0 0), (.int .i64 0), (.int .i64 0)]) 64 rfl Try.underlying22 info46 rfl (by decide) (by omega) u7 x7_2 (⟨1, x8_2, wrap64 ((wrap64 (x8_2 + (Int.tmod (wrap64 ((Int.tmod (rd l0 x9_2) 50) + 50)) 50))) + 1), ([] : List (S36)), 0, 0⟩ : S46) [.int .i64 1, .int .i64 x8_2, .int .i64 (wrap64 ((wrap64 (x8_2 + (Int.tmod (wrap64 ((Int.tmod (rd l0 x9_2) 50) + 50)) 50))) + 1)), .slice none 0 0, .int .i64 0, .int .i64 0] (fun _ => True) (fun k_ => ((fun _ => True)) k_ ∧ some k_ ≠ (u7 : Value).ownBlock) rfl rfl ?aP (fun _ hk => hk) ?aF ?aO ?aB ?aS ?aL ?_; (case aP => exact (k46_mkF _ _ (⟨1, x8_2, wrap64 ((wrap64 (x8_2 + (Int.tmod (wrap64 ((Int.tmod (rd l0 x9_2) 50) + 50)) 50))) + 1), ([] : List (S36)), 0, 0⟩ : S46) (Nat.le_refl _) (Kd.F_nil _ _ _))); (case aB => exact (by repeat (first | (with_reducible first | exact HB.out | apply below_alloc | apply pw_below_drewN | apply below_drew1) | exact HB.out))); (case aF => exact (fun _ _ => trivial)); (case aO => exact (by (with_reducible repeat (first | apply Kd.N_alloc | apply Kd.N_drewN | apply Kd.N_drew)); exact HO_7.out)); (case aS => exact (below_size (by repeat (first | (with_reducible first | exact HB.out | apply below_alloc | apply pw_below_drewN | apply below_drew1) | exact HB.out)))); (case aL => have := LMc27.out; omega); intro v157 w28 ho hb hg hat; rw [← Ny156.out] at ho; have n0_ := Aside0.mk (hb); have n1_ := Aside0.mk (ho); clear HB; clear HO_7; have HB := n0_; have HO158 := n1_; clear n0_ n1_; clear ho hb hg hat))
                    go_roundg k2
                    case measure => have := HJ3.out; have := HK2.out; omega
                    case rel => exact ⟨(y156), (wrap64 ((wrap64 (x8_2 + (Int.tmod (wrap64 ((Int.tmod (rd l0 x9_2) 50) + 50)) 50))) + 1)), (wrap64 (x9_2 + 1)), (by first | rfl | (simp; done) | (simp [*]; done)), (by first | rfl | (simp; done) | (simp [*]; done)), H', ⟨by have := HJ3.out; have := HK2.out; omega⟩, ⟨by (with_reducible repeat (first | apply Kd.N_alloc | apply Kd.N_drewN | apply Kd.N_drew)); exact HO158.out⟩, ⟨by repeat (first | (with_reducible first | exact HB.out | apply below_alloc | apply pw_below_drewN | apply below_drew1) | exact HB.out)⟩⟩
                  · rw [if_neg c27] at H
                    exact absurd H (by simp)
                · rw [if_neg c26] at H
                  exact absurd H (by simp)
            · rw [if_neg c11] at H
              have c11b0 : decide (x9_2 < (l0.length : Int)) = false := decide_eq_false c11
              clear c11
              replace H := Option.bind_eq_some_iff.mp H
              obtain ⟨⟨t159, t160, t161, t162, t163, t164, t165⟩, A290, H⟩ := H
              replace H : ((event_Covers.f k2 x7_2 x8_2).bind fun t167 => (if t167 = true then ((event_Covers.f k2 x7_2 (wrap64 (x8_2 + 1))).bind fun t168 => (if t168 = true then (forebaylaw21_EventCovers.j2 k2 a2 x7_2 x8_2 true) else ((event_Covers.f k2 x7_2 (wrap64 (x8_2 - 1))).bind fun t169 => (if t169 = true then (forebaylaw21_EventCovers.j2 k2 a2 x7_2 x8_2 true) else (if (wrap64 ((wrap64 (t161 + t163)) + t165)) = x8_2 then (forebaylaw21_EventCovers.j2 k2 a2 x7_2 x8_2 ((wrap64 ((wrap64 (t159 + t162)) + t164)) != (x7_2.length : Int))) else (forebaylaw21_EventCovers.j2 k2 a2 x7_2 x8_2 true)))))) else (forebaylaw21_EventCovers.j2 k2 a2 x7_2 x8_2 true))) = some r := H
              have A29 := Aside0.mk A290
              clear A290
              have HC30 := Aside0.mk H
              clear H
              obtain ⟨Ao31, co31, eo31⟩ := Kd.N_slice HO_7.out
              subst eo31
              go_upto_region 15 with (first | ((with_reducible refine gate_callee (f := 11) rfl ?_); refine goesL_ (some 65) rfl rfl Try.func11 (by kernel_rfl) rfl #[.slice Ao31 x7_2.length co31] rfl (by (try simp only [List.map_toArray, List.map_cons, List.map_nil]); first | done | rfl | (simp only [List.length_drop, List.length_take]; rfl)) ?_; (with_reducible refine (event_Count.calls k2 _ _ x7_2 t159 t160 t161 t162 t163 t164 t165 _ ?side1 ?side2 A29.out).mono ?_); (case side1 => repeat (first | exact (Kd.N_reads' HO_7.out).2.2 | (with_reducible refine Kd.C_alloc ?_ _) | (with_reducible refine Kd.C_drewN ?_ _) | (with_reducible refine Kd.C_drew ?_))); (case side2 => exact (Kd.N_reads' HO_7.out).2.1); rintro e w32 ⟨rfl, hb⟩; refine ⟨_, rfl, ?_⟩; have n0_ := Aside0.mk (Kd.N_below (by (with_reducible repeat (first | apply Kd.N_alloc | apply Kd.N_drewN | apply Kd.N_drew)); exact HO_7.out) hb); have n1_ := Aside0.mk (below_step (by repeat (first | (with_reducible first | exact HB.out | apply below_alloc | apply pw_below_drewN | apply below_drew1) | exact HB.out)) hb); clear HO_7; clear HB; have HO_7 := n0_; have HB := n1_; clear n0_ n1_; (try clear hb); (try clear hb2); (try clear hk); (try clear hi)) | ((with_reducible refine gate_dst (N := 12) rfl ?_); (try (refine gate_guard (by rfl) ?_; dsimp only)); refine box_event ?hg (N := 12) ?hd (cs := #[.int .i64 0, .int .i64 0, .int .i64 0, .int .i64 0, .int .i64 0, .int .i64 0, .int .i64 0]) (t := 24) ?hr ?_; (case hd => rfl); (case hg => rfl); (case hr => first | (go_simp; done) | (go_simp; rfl)); intro gb166 hg w33 hbox hb; have n0_ := Aside0.mk (Kd.N_below (Kd.N_elderB (by (with_reducible repeat (first | apply Kd.N_alloc | apply Kd.N_drewN | apply Kd.N_drew)); exact HO_7.out) gb166 (Nat.le_of_eq hg.symm)) hb); have n1_ := Aside0.mk (below_step (by repeat (first | (with_reducible first | exact HB.out | apply below_alloc | apply pw_below_drewN | apply below_drew1) | exact HB.out)) hb); have n2_ := Aside0.mk (hbox); have n3_ := Aside0.mk ((by rw [hg]; exact (below_size (by repeat (first | (with_reducible first | exact HB.out | apply below_alloc | apply pw_below_drewN | apply below_drew1) | exact HB.out))) : w.heap.size ≤ gb166)); have n4_ := Aside0.mk ((by rw [hg]; exact (below_size (by repeat (first | (with_reducible first | exact HB.out | apply below_alloc | apply pw_below_drewN | apply below_drew1) | exact HB.out))) : w.heap.size ≤ gb166)); clear HO_7; clear HB; have HO_7 := n0_; have HB := n1_; have BK166 := n2_; have GW166 := n3_; have GE166 := n4_; clear n0_ n1_ n2_ n3_ n4_; clear hb hbox hg; have hcz34_0 : w33.cell? ⟨gb166, 0, none⟩ = some (.int .i64 0) := (blk_cell BK166.out 0).trans rfl; have hcz34_1 : w33.cell? ⟨gb166, 1, none⟩ = some (.int .i64 0) := (blk_cell BK166.out 1).trans rfl; have hcz34_2 : w33.cell? ⟨gb166, 2, none⟩ = some (.int .i64 0) := (blk_cell BK166.out 2).trans rfl; have hcz34_3 : w33.cell? ⟨gb166, 3, none⟩ = some (.int .i64 0) := (blk_cell BK166.out 3).trans rfl; have hcz34_4 : w33.cell? ⟨gb166, 4, none⟩ = some (.int .i64 0) := (blk_cell BK166.out 4).trans rfl; have hcz34_5 : w33.cell? ⟨gb166, 5, none⟩ = some (.int .i64 0) := (blk_cell BK166.out 5).trans rfl; have hcz34_6 : w33.cell? ⟨gb166, 6, none⟩ = some (.int .i64 0) := (blk_cell BK166.out 6).trans rfl; have hfz34_0 := blk_frozen BK166.out 0; have hfz34_1 := blk_frozen BK166.out 1; have hfz34_2 := blk_frozen BK166.out 2; have hfz34_3 := blk_frozen BK166.out 3; have hfz34_4 := blk_frozen BK166.out 4; have hfz34_5 := blk_frozen BK166.out 5; have hfz34_6 := blk_frozen BK166.out 6))
              (try simp only [Act.put, List.setIfInBounds_toArray, List.set_cons_zero, List.set_cons_succ])
              go_cut [106] (fun v106 wc => ∃ (kq : Nat) (x106_29 : Bool), v106 = .bool x106_29 ∧ Aside0 (forebaylaw21_EventCovers.j2 kq a2 x7_2 x8_2 x106_29 = some r) ∧ Aside0 (kq ≤ k2) ∧ Aside0 (Kd.N k46 46 wc w.heap.size (fun k_ => k_ ≠ gb166) (.slice Ao31 x7_2.length co31) x7_2) ∧ Aside0 (wc.heap[gb166]? = some (.cells #[.int .i64 t159, .int .i64 t160, .int .i64 t161, .int .i64 t162, .int .i64 t163, .int .i64 t164, .int .i64 t165] 24 (0, 0))) ∧ Aside0 (Below w.heap.size w wc))
              case first =>
                have H := HC30.out
                clear HC30
                replace H := Option.bind_eq_some_iff.mp H
                obtain ⟨t167, A350, H⟩ := H
                replace H : (if t167 = true then ((event_Covers.f k2 x7_2 (wrap64 (x8_2 + 1))).bind fun t168 => (if t168 = true then (forebaylaw21_EventCovers.j2 k2 a2 x7_2 x8_2 true) else ((event_Covers.f k2 x7_2 (wrap64 (x8_2 - 1))).bind fun t169 => (if t169 = true then (forebaylaw21_EventCovers.j2 k2 a2 x7_2 x8_2 true) else (if (wrap64 ((wrap64 (t161 + t163)) + t165)) = x8_2 then (forebaylaw21_EventCovers.j2 k2 a2 x7_2 x8_2 ((wrap64 ((wrap64 (t159 + t162)) + t164)) != (x7_2.length : Int))) else (forebaylaw21_EventCovers.j2 k2 a2 x7_2 x8_2 true)))))) else (forebaylaw21_EventCovers.j2 k2 a2 x7_2 x8_2 true)) = some r := H
                have A35 := Aside0.mk A350
                clear A350
                by_cases c36 : t167 = true
                · subst c36
                  have H1 : ((event_Covers.f k2 x7_2 (wrap64 (x8_2 + 1))).bind fun t168 => (if t168 = true then (forebaylaw21_EventCovers.j2 k2 a2 x7_2 x8_2 true) else ((event_Covers.f k2 x7_2 (wrap64 (x8_2 - 1))).bind fun t169 => (if t169 = true then (forebaylaw21_EventCovers.j2 k2 a2 x7_2 x8_2 true) else (if (wrap64 ((wrap64 (t161 + t163)) + t165)) = x8_2 then (forebaylaw21_EventCovers.j2 k2 a2 x7_2 x8_2 ((wrap64 ((wrap64 (t159 + t162)) + t164)) != (x7_2.length : Int))) else (forebaylaw21_EventCovers.j2 k2 a2 x7_2 x8_2 true)))))) = some r := by rw [if_pos rfl] at H; exact H
                  clear H
                  have H := H1
                  clear H1
                  replace H := Option.bind_eq_some_iff.mp H
                  obtain ⟨t168, A370, H⟩ := H
                  replace H : (if t168 = true then (forebaylaw21_EventCovers.j2 k2 a2 x7_2 x8_2 true) else ((event_Covers.f k2 x7_2 (wrap64 (x8_2 - 1))).bind fun t169 => (if t169 = true then (forebaylaw21_EventCovers.j2 k2 a2 x7_2 x8_2 true) else (if (wrap64 ((wrap64 (t161 + t163)) + t165)) = x8_2 then (forebaylaw21_EventCovers.j2 k2 a2 x7_2 x8_2 ((wrap64 ((wrap64 (t159 + t162)) + t164)) != (x7_2.length : Int))) else (forebaylaw21_EventCovers.j2 k2 a2 x7_2 x8_2 true))))) = some r := H
                  have A37 := Aside0.mk A370
                  clear A370
                  by_cases c38 : t168 = true
                  · subst c38
                    have H1 : (forebaylaw21_EventCovers.j2 k2 a2 x7_2 x8_2 true) = some r := by rw [if_pos rfl] at H; exact H
                    clear H
                    have H := H1
                    clear H1
                    have H' := Aside0.mk H
                    clear H
                    go_wp2_with (first | ((with_reducible refine gate_callee (f := 18) rfl ?_); refine goesL_ (some 68) rfl rfl Try.func18 (by kernel_rfl) rfl #[.slice Ao31 x7_2.length co31, .int .i64 x8_2] rfl (by (try simp only [List.map_toArray, List.map_cons, List.map_nil]); first | done | rfl | (simp only [List.length_drop, List.length_take]; rfl)) ?_; (with_reducible refine (event_Covers.calls k2 _ _ x7_2 x8_2 true _ ?side1 ?side2 A35.out).mono ?_); (case side1 => refine (Kd.N_reads' (e := 46) (base := w.heap.size) (ok := fun k_ => (True ∧ k_ ≠ gb166)) (n := x7_2.length) (c := co31) ?_).2.2; exact (by (with_reducible repeat (first | apply Kd.N_alloc | apply Kd.N_drewN | apply Kd.N_drew)); exact (Kd.N_mono (Kd.N_far (p := ⟨gb166, 6, none⟩) (Kd.N_far (p := ⟨gb166, 5, none⟩) (Kd.N_far (p := ⟨gb166, 4, none⟩) (Kd.N_far (p := ⟨gb166, 3, none⟩) (Kd.N_far (p := ⟨gb166, 2, none⟩) (Kd.N_far (p := ⟨gb166, 1, none⟩) (Kd.N_far (p := ⟨gb166, 0, none⟩) (Kd.N_mono HO_7.out (fun k_ hk => (⟨hk, hk.2⟩ : _ ∧ k_ ≠ gb166))) (fun _ hk => hk.2) (.int .i64 t159)) (fun _ hk => hk.2) (.int .i64 t160)) (fun _ hk => hk.2) (.int .i64 t161)) (fun _ hk => hk.2) (.int .i64 t162)) (fun _ hk => hk.2) (.int .i64 t163)) (fun _ hk => hk.2) (.int .i64 t164)) (fun _ hk => hk.2) (.int .i64 t165)) (fun _ h_ => h_.1)))); (case side2 => exact (Kd.N_reads' HO_7.out).2.1); rintro e w39 ⟨rfl, hb⟩; refine ⟨_, rfl, ?_⟩; have n0_ := Aside0.mk (Kd.N_below (by (with_reducible repeat (first | apply Kd.N_alloc | apply Kd.N_drewN | apply Kd.N_drew)); exact (Kd.N_mono (Kd.N_far (p := ⟨gb166, 6, none⟩) (Kd.N_far (p := ⟨gb166, 5, none⟩) (Kd.N_far (p := ⟨gb166, 4, none⟩) (Kd.N_far (p := ⟨gb166, 3, none⟩) (Kd.N_far (p := ⟨gb166, 2, none⟩) (Kd.N_far (p := ⟨gb166, 1, none⟩) (Kd.N_far (p := ⟨gb166, 0, none⟩) (Kd.N_mono HO_7.out (fun k_ hk => (⟨hk, hk.2⟩ : _ ∧ k_ ≠ gb166))) (fun _ hk => hk.2) (.int .i64 t159)) (fun _ hk => hk.2) (.int .i64 t160)) (fun _ hk => hk.2) (.int .i64 t161)) (fun _ hk => hk.2) (.int .i64 t162)) (fun _ hk => hk.2) (.int .i64 t163)) (fun _ hk => hk.2) (.int .i64 t164)) (fun _ hk => hk.2) (.int .i64 t165)) (fun _ h_ => h_.1))) hb); have n1_ := Aside0.mk (blk_below (g := gb166) (o := .cells #[.int .i64 t159, .int .i64 t160, .int .i64 t161, .int .i64 t162, .int .i64 t163, .int .i64 t164, .int .i64 t165] 24 (0, 0)) (by (with_reducible repeat (first | refine blk_drewN ?_ _ | refine blk_drew ?_ | refine blk_alloc ?_ _)); refine blk_put (cs := #[.int .i64 t159, .int .i64 t160, .int .i64 t161, .int .i64 t162, .int .i64 t163, .int .i64 t164, .int .i64 0]) ?_ 6 _ rfl; (with_reducible repeat (first | refine blk_drewN ?_ _ | refine blk_drew ?_ | refine blk_alloc ?_ _)); refine blk_put (cs := #[.int .i64 t159, .int .i64 t160, .int .i64 t161, .int .i64 t162, .int .i64 t163, .int .i64 0, .int .i64 0]) ?_ 5 _ rfl; (with_reducible repeat (first | refine blk_drewN ?_ _ | refine blk_drew ?_ | refine blk_alloc ?_ _)); refine blk_put (cs := #[.int .i64 t159, .int .i64 t160, .int .i64 t161, .int .i64 t162, .int .i64 0, .int .i64 0, .int .i64 0]) ?_ 4 _ rfl; (with_reducible repeat (first | refine blk_drewN ?_ _ | refine blk_drew ?_ | refine blk_alloc ?_ _)); refine blk_put (cs := #[.int .i64 t159, .int .i64 t160, .int .i64 t161, .int .i64 0, .int .i64 0, .int .i64 0, .int .i64 0]) ?_ 3 _ rfl; (with_reducible repeat (first | refine blk_drewN ?_ _ | refine blk_drew ?_ | refine blk_alloc ?_ _)); refine blk_put (cs := #[.int .i64 t159, .int .i64 t160, .int .i64 0, .int .i64 0, .int .i64 0, .int .i64 0, .int .i64 0]) ?_ 2 _ rfl; (with_reducible repeat (first | refine blk_drewN ?_ _ | refine blk_drew ?_ | refine blk_alloc ?_ _)); refine blk_put (cs := #[.int .i64 t159, .int .i64 0, .int .i64 0, .int .i64 0, .int .i64 0, .int .i64 0, .int .i64 0]) ?_ 1 _ rfl; (with_reducible repeat (first | refine blk_drewN ?_ _ | refine blk_drew ?_ | refine blk_alloc ?_ _)); refine blk_put (cs := #[.int .i64 0, .int .i64 0, .int .i64 0, .int .i64 0, .int .i64 0, .int .i64 0, .int .i64 0]) ?_ 0 _ rfl; (with_reducible repeat (first | refine blk_drewN ?_ _ | refine blk_drew ?_ | refine blk_alloc ?_ _)); exact BK166.out) hb); have n2_ := Aside0.mk (below_step (by repeat (first | (with_reducible first | exact HB.out | apply below_alloc | apply pw_below_drewN | apply below_drew1 | refine below_set ?_ GE166.out) | exact HB.out)) hb); clear HO_7; clear BK166; clear HB; have HO_7 := n0_; have BK166 := n1_; have HB := n2_; clear n0_ n1_ n2_; (try clear hb); (try clear hb2); (try clear hk); (try clear hi)) | (go_at_call 18; (with_reducible refine (event_Covers.calls k2 _ _ x7_2 (wrap64 (x8_2 + 1)) true _ ?side1 ?side2 A37.out).mono ?_); (case side1 => repeat (first | exact (Kd.N_reads' HO_7.out).2.2 | (with_reducible refine Kd.C_alloc ?_ _) | (with_reducible refine Kd.C_drewN ?_ _) | (with_reducible refine Kd.C_drew ?_))); (case side2 => exact (Kd.N_reads' HO_7.out).2.1); rintro e w40 ⟨rfl, hb⟩; have n0_ := Aside0.mk (Kd.N_below (by (with_reducible repeat (first | apply Kd.N_alloc | apply Kd.N_drewN | apply Kd.N_drew)); exact HO_7.out) hb); have n1_ := Aside0.mk (blk_below (g := gb166) (o := .cells #[.int .i64 t159, .int .i64 t160, .int .i64 t161, .int .i64 t162, .int .i64 t163, .int .i64 t164, .int .i64 t165] 24 (0, 0)) (by (with_reducible repeat (first | refine blk_drewN ?_ _ | refine blk_drew ?_ | refine blk_alloc ?_ _)); exact BK166.out) hb); have n2_ := Aside0.mk (below_step (by repeat (first | (with_reducible first | exact HB.out | apply below_alloc | apply pw_below_drewN | apply below_drew1 | refine below_set ?_ GE166.out) | exact HB.out)) hb); clear HO_7; clear BK166; clear HB; have HO_7 := n0_; have BK166 := n1_; have HB := n2_; clear n0_ n1_ n2_; (try clear hb); (try clear hb2); (try clear hk); (try clear hi)))
                    go_meet
                    case rel => exact ⟨_, (true), (by first | rfl | (simp; done) | (simp [*]; done)), H', ⟨by have := HJ3.out; have := HK2.out; first | omega | exact Nat.le_refl _⟩, ⟨by (with_reducible repeat (first | apply Kd.N_alloc | apply Kd.N_drewN | apply Kd.N_drew)); exact Kd.N_mono HO_7.out (fun _ hk => hk.2)⟩, ⟨by (with_reducible repeat (first | refine blk_drewN ?_ _ | refine blk_drew ?_ | refine blk_alloc ?_ _)); exact BK166.out⟩, ⟨by repeat (first | (with_reducible first | exact HB.out | apply below_alloc | apply pw_below_drewN | apply below_drew1 | refine below_set ?_ GE166.out) | exact HB.out)⟩⟩
                  · replace c38 := Bool.eq_false_iff.mpr c38
                    subst c38
                    have H1 : ((event_Covers.f k2 x7_2 (wrap64 (x8_2 - 1))).bind fun t169 => (if t169 = true then (forebaylaw21_EventCovers.j2 k2 a2 x7_2 x8_2 true) else (if (wrap64 ((wrap64 (t161 + t163)) + t165)) = x8_2 then (forebaylaw21_EventCovers.j2 k2 a2 x7_2 x8_2 ((wrap64 ((wrap64 (t159 + t162)) + t164)) != (x7_2.length : Int))) else (forebaylaw21_EventCovers.j2 k2 a2 x7_2 x8_2 true)))) = some r := by rw [if_neg (show ¬ (false = true) by decide)] at H; exact H
                    clear H
                    have H := H1
                    clear H1
                    replace H := Option.bind_eq_some_iff.mp H
                    obtain ⟨t169, A410, H⟩ := H
                    replace H : (if t169 = true then (forebaylaw21_EventCovers.j2 k2 a2 x7_2 x8_2 true) else (if (wrap64 ((wrap64 (t161 + t163)) + t165)) = x8_2 then (forebaylaw21_EventCovers.j2 k2 a2 x7_2 x8_2 ((wrap64 ((wrap64 (t159 + t162)) + t164)) != (x7_2.length : Int))) else (forebaylaw21_EventCovers.j2 k2 a2 x7_2 x8_2 true))) = some r := H
                    have A41 := Aside0.mk A410
                    clear A410
                    by_cases c42 : t169 = true
                    · subst c42
                      have H1 : (forebaylaw21_EventCovers.j2 k2 a2 x7_2 x8_2 true) = some r := by rw [if_pos rfl] at H; exact H
                      clear H
                      have H := H1
                      clear H1
                      have H' := Aside0.mk H
                      clear H
                      go_wp2_with (first | ((with_reducible refine gate_callee (f := 18) rfl ?_); refine goesL_ (some 68) rfl rfl Try.func18 (by kernel_rfl) rfl #[.slice Ao31 x7_2.length co31, .int .i64 x8_2] rfl (by (try simp only [List.map_toArray, List.map_cons, List.map_nil]); first | done | rfl | (simp only [List.length_drop, List.length_take]; rfl)) ?_; (with_reducible refine (event_Covers.calls k2 _ _ x7_2 x8_2 true _ ?side1 ?side2 A35.out).mono ?_); (case side1 => refine (Kd.N_reads' (e := 46) (base := w.heap.size) (ok := fun k_ => (True ∧ k_ ≠ gb166)) (n := x7_2.length) (c := co31) ?_).2.2; exact (by (with_reducible repeat (first | apply Kd.N_alloc | apply Kd.N_drewN | apply Kd.N_drew)); exact (Kd.N_mono (Kd.N_far (p := ⟨gb166, 6, none⟩) (Kd.N_far (p := ⟨gb166, 5, none⟩) (Kd.N_far (p := ⟨gb166, 4, none⟩) (Kd.N_far (p := ⟨gb166, 3, none⟩) (Kd.N_far (p := ⟨gb166, 2, none⟩) (Kd.N_far (p := ⟨gb166, 1, none⟩) (Kd.N_far (p := ⟨gb166, 0, none⟩) (Kd.N_mono HO_7.out (fun k_ hk => (⟨hk, hk.2⟩ : _ ∧ k_ ≠ gb166))) (fun _ hk => hk.2) (.int .i64 t159)) (fun _ hk => hk.2) (.int .i64 t160)) (fun _ hk => hk.2) (.int .i64 t161)) (fun _ hk => hk.2) (.int .i64 t162)) (fun _ hk => hk.2) (.int .i64 t163)) (fun _ hk => hk.2) (.int .i64 t164)) (fun _ hk => hk.2) (.int .i64 t165)) (fun _ h_ => h_.1)))); (case side2 => exact (Kd.N_reads' HO_7.out).2.1); rintro e w43 ⟨rfl, hb⟩; refine ⟨_, rfl, ?_⟩; have n0_ := Aside0.mk (Kd.N_below (by (with_reducible repeat (first | apply Kd.N_alloc | apply Kd.N_drewN | apply Kd.N_drew)); exact (Kd.N_mono (Kd.N_far (p := ⟨gb166, 6, none⟩) (Kd.N_far (p := ⟨gb166, 5, none⟩) (Kd.N_far (p := ⟨gb166, 4, none⟩) (Kd.N_far (p := ⟨gb166, 3, none⟩) (Kd.N_far (p := ⟨gb166, 2, none⟩) (Kd.N_far (p := ⟨gb166, 1, none⟩) (Kd.N_far (p := ⟨gb166, 0, none⟩) (Kd.N_mono HO_7.out (fun k_ hk => (⟨hk, hk.2⟩ : _ ∧ k_ ≠ gb166))) (fun _ hk => hk.2) (.int .i64 t159)) (fun _ hk => hk.2) (.int .i64 t160)) (fun _ hk => hk.2) (.int .i64 t161)) (fun _ hk => hk.2) (.int .i64 t162)) (fun _ hk => hk.2) (.int .i64 t163)) (fun _ hk => hk.2) (.int .i64 t164)) (fun _ hk => hk.2) (.int .i64 t165)) (fun _ h_ => h_.1))) hb); have n1_ := Aside0.mk (blk_below (g := gb166) (o := .cells #[.int .i64 t159, .int .i64 t160, .int .i64 t161, .int .i64 t162, .int .i64 t163, .int .i64 t164, .int .i64 t165] 24 (0, 0)) (by (with_reducible repeat (first | refine blk_drewN ?_ _ | refine blk_drew ?_ | refine blk_alloc ?_ _)); refine blk_put (cs := #[.int .i64 t159, .int .i64 t160, .int .i64 t161, .int .i64 t162, .int .i64 t163, .int .i64 t164, .int .i64 0]) ?_ 6 _ rfl; (with_reducible repeat (first | refine blk_drewN ?_ _ | refine blk_drew ?_ | refine blk_alloc ?_ _)); refine blk_put (cs := #[.int .i64 t159, .int .i64 t160, .int .i64 t161, .int .i64 t162, .int .i64 t163, .int .i64 0, .int .i64 0]) ?_ 5 _ rfl; (with_reducible repeat (first | refine blk_drewN ?_ _ | refine blk_drew ?_ | refine blk_alloc ?_ _)); refine blk_put (cs := #[.int .i64 t159, .int .i64 t160, .int .i64 t161, .int .i64 t162, .int .i64 0, .int .i64 0, .int .i64 0]) ?_ 4 _ rfl; (with_reducible repeat (first | refine blk_drewN ?_ _ | refine blk_drew ?_ | refine blk_alloc ?_ _)); refine blk_put (cs := #[.int .i64 t159, .int .i64 t160, .int .i64 t161, .int .i64 0, .int .i64 0, .int .i64 0, .int .i64 0]) ?_ 3 _ rfl; (with_reducible repeat (first | refine blk_drewN ?_ _ | refine blk_drew ?_ | refine blk_alloc ?_ _)); refine blk_put (cs := #[.int .i64 t159, .int .i64 t160, .int .i64 0, .int .i64 0, .int .i64 0, .int .i64 0, .int .i64 0]) ?_ 2 _ rfl; (with_reducible repeat (first | refine blk_drewN ?_ _ | refine blk_drew ?_ | refine blk_alloc ?_ _)); refine blk_put (cs := #[.int .i64 t159, .int .i64 0, .int .i64 0, .int .i64 0, .int .i64 0, .int .i64 0, .int .i64 0]) ?_ 1 _ rfl; (with_reducible repeat (first | refine blk_drewN ?_ _ | refine blk_drew ?_ | refine blk_alloc ?_ _)); refine blk_put (cs := #[.int .i64 0, .int .i64 0, .int .i64 0, .int .i64 0, .int .i64 0, .int .i64 0, .int .i64 0]) ?_ 0 _ rfl; (with_reducible repeat (first | refine blk_drewN ?_ _ | refine blk_drew ?_ | refine blk_alloc ?_ _)); exact BK166.out) hb); have n2_ := Aside0.mk (below_step (by repeat (first | (with_reducible first | exact HB.out | apply below_alloc | apply pw_below_drewN | apply below_drew1 | refine below_set ?_ GE166.out) | exact HB.out)) hb); clear HO_7; clear BK166; clear HB; have HO_7 := n0_; have BK166 := n1_; have HB := n2_; clear n0_ n1_ n2_; (try clear hb); (try clear hb2); (try clear hk); (try clear hi)) | (go_at_call 18; (with_reducible refine (event_Covers.calls k2 _ _ x7_2 (wrap64 (x8_2 + 1)) false _ ?side1 ?side2 A37.out).mono ?_); (case side1 => repeat (first | exact (Kd.N_reads' HO_7.out).2.2 | (with_reducible refine Kd.C_alloc ?_ _) | (with_reducible refine Kd.C_drewN ?_ _) | (with_reducible refine Kd.C_drew ?_))); (case side2 => exact (Kd.N_reads' HO_7.out).2.1); rintro e w44 ⟨rfl, hb⟩; have n0_ := Aside0.mk (Kd.N_below (by (with_reducible repeat (first | apply Kd.N_alloc | apply Kd.N_drewN | apply Kd.N_drew)); exact HO_7.out) hb); have n1_ := Aside0.mk (blk_below (g := gb166) (o := .cells #[.int .i64 t159, .int .i64 t160, .int .i64 t161, .int .i64 t162, .int .i64 t163, .int .i64 t164, .int .i64 t165] 24 (0, 0)) (by (with_reducible repeat (first | refine blk_drewN ?_ _ | refine blk_drew ?_ | refine blk_alloc ?_ _)); exact BK166.out) hb); have n2_ := Aside0.mk (below_step (by repeat (first | (with_reducible first | exact HB.out | apply below_alloc | apply pw_below_drewN | apply below_drew1 | refine below_set ?_ GE166.out) | exact HB.out)) hb); clear HO_7; clear BK166; clear HB; have HO_7 := n0_; have BK166 := n1_; have HB := n2_; clear n0_ n1_ n2_; (try clear hb); (try clear hb2); (try clear hk); (try clear hi)) | (go_at_call 18; (with_reducible refine (event_Covers.calls k2 _ _ x7_2 (wrap64 (x8_2 - 1)) true _ ?side1 ?side2 A41.out).mono ?_); (case side1 => repeat (first | exact (Kd.N_reads' HO_7.out).2.2 | (with_reducible refine Kd.C_alloc ?_ _) | (with_reducible refine Kd.C_drewN ?_ _) | (with_reducible refine Kd.C_drew ?_))); (case side2 => exact (Kd.N_reads' HO_7.out).2.1); rintro e w45 ⟨rfl, hb⟩; have n0_ := Aside0.mk (Kd.N_below (by (with_reducible repeat (first | apply Kd.N_alloc | apply Kd.N_drewN | apply Kd.N_drew)); exact HO_7.out) hb); have n1_ := Aside0.mk (blk_below (g := gb166) (o := .cells #[.int .i64 t159, .int .i64 t160, .int .i64 t161, .int .i64 t162, .int .i64 t163, .int .i64 t164, .int .i64 t165] 24 (0, 0)) (by (with_reducible repeat (first | refine blk_drewN ?_ _ | refine blk_drew ?_ | refine blk_alloc ?_ _)); exact BK166.out) hb); have n2_ := Aside0.mk (below_step (by repeat (first | (with_reducible first | exact HB.out | apply below_alloc | apply pw_below_drewN | apply below_drew1 | refine below_set ?_ GE166.out) | exact HB.out)) hb); clear HO_7; clear BK166; clear HB; have HO_7 := n0_; have BK166 := n1_; have HB := n2_; clear n0_ n1_ n2_; (try clear hb); (try clear hb2); (try clear hk); (try clear hi)))
                      go_meet
                      case rel => exact ⟨_, (true), (by first | rfl | (simp; done) | (simp [*]; done)), H', ⟨by have := HJ3.out; have := HK2.out; first | omega | exact Nat.le_refl _⟩, ⟨by (with_reducible repeat (first | apply Kd.N_alloc | apply Kd.N_drewN | apply Kd.N_drew)); exact Kd.N_mono HO_7.out (fun _ hk => hk.2)⟩, ⟨by (with_reducible repeat (first | refine blk_drewN ?_ _ | refine blk_drew ?_ | refine blk_alloc ?_ _)); exact BK166.out⟩, ⟨by repeat (first | (with_reducible first | exact HB.out | apply below_alloc | apply pw_below_drewN | apply below_drew1 | refine below_set ?_ GE166.out) | exact HB.out)⟩⟩
                    · replace c42 := Bool.eq_false_iff.mpr c42
                      subst c42
                      have H1 : (if (wrap64 ((wrap64 (t161 + t163)) + t165)) = x8_2 then (forebaylaw21_EventCovers.j2 k2 a2 x7_2 x8_2 ((wrap64 ((wrap64 (t159 + t162)) + t164)) != (x7_2.length : Int))) else (forebaylaw21_EventCovers.j2 k2 a2 x7_2 x8_2 true)) = some r := by rw [if_neg (show ¬ (false = true) by decide)] at H; exact H
                      clear H
                      have H := H1
                      clear H1
                      by_cases c46 : (wrap64 ((wrap64 (t161 + t163)) + t165)) = x8_2
                      · rw [if_pos c46] at H
                        have c46b0 : ((wrap64 ((wrap64 (t161 + t163)) + t165)) == x8_2) = true := beq_iff_eq.mpr c46
                        have c46b1 : ((wrap64 ((wrap64 (t161 + t163)) + t165)) != x8_2) = false := bne_eq_false_iff_eq.mpr c46
                        clear c46
                        (first | rw [c46b0] | (simp only [i64_w, i32_w]; rw [c46b0]) | skip)
                        have H' := Aside0.mk H
                        clear H
                        go_wp2_with (first | ((with_reducible refine gate_callee (f := 18) rfl ?_); refine goesL_ (some 68) rfl rfl Try.func18 (by kernel_rfl) rfl #[.slice Ao31 x7_2.length co31, .int .i64 x8_2] rfl (by (try simp only [List.map_toArray, List.map_cons, List.map_nil]); first | done | rfl | (simp only [List.length_drop, List.length_take]; rfl)) ?_; (with_reducible refine (event_Covers.calls k2 _ _ x7_2 x8_2 true _ ?side1 ?side2 A35.out).mono ?_); (case side1 => refine (Kd.N_reads' (e := 46) (base := w.heap.size) (ok := fun k_ => (True ∧ k_ ≠ gb166)) (n := x7_2.length) (c := co31) ?_).2.2; exact (by (with_reducible repeat (first | apply Kd.N_alloc | apply Kd.N_drewN | apply Kd.N_drew)); exact (Kd.N_mono (Kd.N_far (p := ⟨gb166, 6, none⟩) (Kd.N_far (p := ⟨gb166, 5, none⟩) (Kd.N_far (p := ⟨gb166, 4, none⟩) (Kd.N_far (p := ⟨gb166, 3, none⟩) (Kd.N_far (p := ⟨gb166, 2, none⟩) (Kd.N_far (p := ⟨gb166, 1, none⟩) (Kd.N_far (p := ⟨gb166, 0, none⟩) (Kd.N_mono HO_7.out (fun k_ hk => (⟨hk, hk.2⟩ : _ ∧ k_ ≠ gb166))) (fun _ hk => hk.2) (.int .i64 t159)) (fun _ hk => hk.2) (.int .i64 t160)) (fun _ hk => hk.2) (.int .i64 t161)) (fun _ hk => hk.2) (.int .i64 t162)) (fun _ hk => hk.2) (.int .i64 t163)) (fun _ hk => hk.2) (.int .i64 t164)) (fun _ hk => hk.2) (.int .i64 t165)) (fun _ h_ => h_.1)))); (case side2 => exact (Kd.N_reads' HO_7.out).2.1); rintro e w47 ⟨rfl, hb⟩; refine ⟨_, rfl, ?_⟩; have n0_ := Aside0.mk (Kd.N_below (by (with_reducible repeat (first | apply Kd.N_alloc | apply Kd.N_drewN | apply Kd.N_drew)); exact (Kd.N_mono (Kd.N_far (p := ⟨gb166, 6, none⟩) (Kd.N_far (p := ⟨gb166, 5, none⟩) (Kd.N_far (p := ⟨gb166, 4, none⟩) (Kd.N_far (p := ⟨gb166, 3, none⟩) (Kd.N_far (p := ⟨gb166, 2, none⟩) (Kd.N_far (p := ⟨gb166, 1, none⟩) (Kd.N_far (p := ⟨gb166, 0, none⟩) (Kd.N_mono HO_7.out (fun k_ hk => (⟨hk, hk.2⟩ : _ ∧ k_ ≠ gb166))) (fun _ hk => hk.2) (.int .i64 t159)) (fun _ hk => hk.2) (.int .i64 t160)) (fun _ hk => hk.2) (.int .i64 t161)) (fun _ hk => hk.2) (.int .i64 t162)) (fun _ hk => hk.2) (.int .i64 t163)) (fun _ hk => hk.2) (.int .i64 t164)) (fun _ hk => hk.2) (.int .i64 t165)) (fun _ h_ => h_.1))) hb); have n1_ := Aside0.mk (blk_below (g := gb166) (o := .cells #[.int .i64 t159, .int .i64 t160, .int .i64 t161, .int .i64 t162, .int .i64 t163, .int .i64 t164, .int .i64 t165] 24 (0, 0)) (by (with_reducible repeat (first | refine blk_drewN ?_ _ | refine blk_drew ?_ | refine blk_alloc ?_ _)); refine blk_put (cs := #[.int .i64 t159, .int .i64 t160, .int .i64 t161, .int .i64 t162, .int .i64 t163, .int .i64 t164, .int .i64 0]) ?_ 6 _ rfl; (with_reducible repeat (first | refine blk_drewN ?_ _ | refine blk_drew ?_ | refine blk_alloc ?_ _)); refine blk_put (cs := #[.int .i64 t159, .int .i64 t160, .int .i64 t161, .int .i64 t162, .int .i64 t163, .int .i64 0, .int .i64 0]) ?_ 5 _ rfl; (with_reducible repeat (first | refine blk_drewN ?_ _ | refine blk_drew ?_ | refine blk_alloc ?_ _)); refine blk_put (cs := #[.int .i64 t159, .int .i64 t160, .int .i64 t161, .int .i64 t162, .int .i64 0, .int .i64 0, .int .i64 0]) ?_ 4 _ rfl; (with_reducible repeat (first | refine blk_drewN ?_ _ | refine blk_drew ?_ | refine blk_alloc ?_ _)); refine blk_put (cs := #[.int .i64 t159, .int .i64 t160, .int .i64 t161, .int .i64 0, .int .i64 0, .int .i64 0, .int .i64 0]) ?_ 3 _ rfl; (with_reducible repeat (first | refine blk_drewN ?_ _ | refine blk_drew ?_ | refine blk_alloc ?_ _)); refine blk_put (cs := #[.int .i64 t159, .int .i64 t160, .int .i64 0, .int .i64 0, .int .i64 0, .int .i64 0, .int .i64 0]) ?_ 2 _ rfl; (with_reducible repeat (first | refine blk_drewN ?_ _ | refine blk_drew ?_ | refine blk_alloc ?_ _)); refine blk_put (cs := #[.int .i64 t159, .int .i64 0, .int .i64 0, .int .i64 0, .int .i64 0, .int .i64 0, .int .i64 0]) ?_ 1 _ rfl; (with_reducible repeat (first | refine blk_drewN ?_ _ | refine blk_drew ?_ | refine blk_alloc ?_ _)); refine blk_put (cs := #[.int .i64 0, .int .i64 0, .int .i64 0, .int .i64 0, .int .i64 0, .int .i64 0, .int .i64 0]) ?_ 0 _ rfl; (with_reducible repeat (first | refine blk_drewN ?_ _ | refine blk_drew ?_ | refine blk_alloc ?_ _)); exact BK166.out) hb); have n2_ := Aside0.mk (below_step (by repeat (first | (with_reducible first | exact HB.out | apply below_alloc | apply pw_below_drewN | apply below_drew1 | refine below_set ?_ GE166.out) | exact HB.out)) hb); clear HO_7; clear BK166; clear HB; have HO_7 := n0_; have BK166 := n1_; have HB := n2_; clear n0_ n1_ n2_; (try clear hb); (try clear hb2); (try clear hk); (try clear hi)) | (go_at_call 18; (with_reducible refine (event_Covers.calls k2 _ _ x7_2 (wrap64 (x8_2 + 1)) false _ ?side1 ?side2 A37.out).mono ?_); (case side1 => repeat (first | exact (Kd.N_reads' HO_7.out).2.2 | (with_reducible refine Kd.C_alloc ?_ _) | (with_reducible refine Kd.C_drewN ?_ _) | (with_reducible refine Kd.C_drew ?_))); (case side2 => exact (Kd.N_reads' HO_7.out).2.1); rintro e w48 ⟨rfl, hb⟩; have n0_ := Aside0.mk (Kd.N_below (by (with_reducible repeat (first | apply Kd.N_alloc | apply Kd.N_drewN | apply Kd.N_drew)); exact HO_7.out) hb); have n1_ := Aside0.mk (blk_below (g := gb166) (o := .cells #[.int .i64 t159, .int .i64 t160, .int .i64 t161, .int .i64 t162, .int .i64 t163, .int .i64 t164, .int .i64 t165] 24 (0, 0)) (by (with_reducible repeat (first | refine blk_drewN ?_ _ | refine blk_drew ?_ | refine blk_alloc ?_ _)); exact BK166.out) hb); have n2_ := Aside0.mk (below_step (by repeat (first | (with_reducible first | exact HB.out | apply below_alloc | apply pw_below_drewN | apply below_drew1 | refine below_set ?_ GE166.out) | exact HB.out)) hb); clear HO_7; clear BK166; clear HB; have HO_7 := n0_; have BK166 := n1_; have HB := n2_; clear n0_ n1_ n2_; (try clear hb); (try clear hb2); (try clear hk); (try clear hi)) | (go_at_call 18; (with_reducible refine (event_Covers.calls k2 _ _ x7_2 (wrap64 (x8_2 - 1)) false _ ?side1 ?side2 A41.out).mono ?_); (case side1 => repeat (first | exact (Kd.N_reads' HO_7.out).2.2 | (with_reducible refine Kd.C_alloc ?_ _) | (with_reducible refine Kd.C_drewN ?_ _) | (with_reducible refine Kd.C_drew ?_))); (case side2 => exact (Kd.N_reads' HO_7.out).2.1); rintro e w49 ⟨rfl, hb⟩; have n0_ := Aside0.mk (Kd.N_below (by (with_reducible repeat (first | apply Kd.N_alloc | apply Kd.N_drewN | apply Kd.N_drew)); exact HO_7.out) hb); have n1_ := Aside0.mk (blk_below (g := gb166) (o := .cells #[.int .i64 t159, .int .i64 t160, .int .i64 t161, .int .i64 t162, .int .i64 t163, .int .i64 t164, .int .i64 t165] 24 (0, 0)) (by (with_reducible repeat (first | refine blk_drewN ?_ _ | refine blk_drew ?_ | refine blk_alloc ?_ _)); exact BK166.out) hb); have n2_ := Aside0.mk (below_step (by repeat (first | (with_reducible first | exact HB.out | apply below_alloc | apply pw_below_drewN | apply below_drew1 | refine below_set ?_ GE166.out) | exact HB.out)) hb); clear HO_7; clear BK166; clear HB; have HO_7 := n0_; have BK166 := n1_; have HB := n2_; clear n0_ n1_ n2_; (try clear hb); (try clear hb2); (try clear hk); (try clear hi); have hcz50_0 : w49.cell? ⟨gb166, 0, none⟩ = some (.int .i64 t159) := (blk_cell BK166.out 0).trans rfl; have hcz50_1 : w49.cell? ⟨gb166, 1, none⟩ = some (.int .i64 t160) := (blk_cell BK166.out 1).trans rfl; have hcz50_2 : w49.cell? ⟨gb166, 2, none⟩ = some (.int .i64 t161) := (blk_cell BK166.out 2).trans rfl; have hcz50_3 : w49.cell? ⟨gb166, 3, none⟩ = some (.int .i64 t162) := (blk_cell BK166.out 3).trans rfl; have hcz50_4 : w49.cell? ⟨gb166, 4, none⟩ = some (.int .i64 t163) := (blk_cell BK166.out 4).trans rfl; have hcz50_5 : w49.cell? ⟨gb166, 5, none⟩ = some (.int .i64 t164) := (blk_cell BK166.out 5).trans rfl; have hcz50_6 : w49.cell? ⟨gb166, 6, none⟩ = some (.int .i64 t165) := (blk_cell BK166.out 6).trans rfl; have hfz50_0 := blk_frozen BK166.out 0; have hfz50_1 := blk_frozen BK166.out 1; have hfz50_2 := blk_frozen BK166.out 2; have hfz50_3 := blk_frozen BK166.out 3; have hfz50_4 := blk_frozen BK166.out 4; have hfz50_5 := blk_frozen BK166.out 5; have hfz50_6 := blk_frozen BK166.out 6))
                        go_meet
                        case rel => exact ⟨_, (((wrap64 ((wrap64 (t159 + t162)) + t164)) != (x7_2.length : Int))), (by first | rfl | (simp; done) | (simp [*]; done)), H', ⟨by have := HJ3.out; have := HK2.out; first | omega | exact Nat.le_refl _⟩, ⟨by (with_reducible repeat (first | apply Kd.N_alloc | apply Kd.N_drewN | apply Kd.N_drew)); exact Kd.N_mono HO_7.out (fun _ hk => hk.2)⟩, ⟨by (with_reducible repeat (first | refine blk_drewN ?_ _ | refine blk_drew ?_ | refine blk_alloc ?_ _)); exact BK166.out⟩, ⟨by repeat (first | (with_reducible first | exact HB.out | apply below_alloc | apply pw_below_drewN | apply below_drew1 | refine below_set ?_ GE166.out) | exact HB.out)⟩⟩
                      · rw [if_neg c46] at H
                        have c46b0 : ((wrap64 ((wrap64 (t161 + t163)) + t165)) == x8_2) = false := beq_eq_false_iff_ne.mpr c46
                        have c46b1 : ((wrap64 ((wrap64 (t161 + t163)) + t165)) != x8_2) = true := bne_iff_ne.mpr c46
                        (first | rw [c46b0] | (simp only [i64_w, i32_w]; rw [c46b0]) | skip)
                        have H' := Aside0.mk H
                        clear H
                        go_wp2_with (first | ((with_reducible refine gate_callee (f := 18) rfl ?_); refine goesL_ (some 68) rfl rfl Try.func18 (by kernel_rfl) rfl #[.slice Ao31 x7_2.length co31, .int .i64 x8_2] rfl (by (try simp only [List.map_toArray, List.map_cons, List.map_nil]); first | done | rfl | (simp only [List.length_drop, List.length_take]; rfl)) ?_; (with_reducible refine (event_Covers.calls k2 _ _ x7_2 x8_2 true _ ?side1 ?side2 A35.out).mono ?_); (case side1 => refine (Kd.N_reads' (e := 46) (base := w.heap.size) (ok := fun k_ => (True ∧ k_ ≠ gb166)) (n := x7_2.length) (c := co31) ?_).2.2; exact (by (with_reducible repeat (first | apply Kd.N_alloc | apply Kd.N_drewN | apply Kd.N_drew)); exact (Kd.N_mono (Kd.N_far (p := ⟨gb166, 6, none⟩) (Kd.N_far (p := ⟨gb166, 5, none⟩) (Kd.N_far (p := ⟨gb166, 4, none⟩) (Kd.N_far (p := ⟨gb166, 3, none⟩) (Kd.N_far (p := ⟨gb166, 2, none⟩) (Kd.N_far (p := ⟨gb166, 1, none⟩) (Kd.N_far (p := ⟨gb166, 0, none⟩) (Kd.N_mono HO_7.out (fun k_ hk => (⟨hk, hk.2⟩ : _ ∧ k_ ≠ gb166))) (fun _ hk => hk.2) (.int .i64 t159)) (fun _ hk => hk.2) (.int .i64 t160)) (fun _ hk => hk.2) (.int .i64 t161)) (fun _ hk => hk.2) (.int .i64 t162)) (fun _ hk => hk.2) (.int .i64 t163)) (fun _ hk => hk.2) (.int .i64 t164)) (fun _ hk => hk.2) (.int .i64 t165)) (fun _ h_ => h_.1)))); (case side2 => exact (Kd.N_reads' HO_7.out).2.1); rintro e w51 ⟨rfl, hb⟩; refine ⟨_, rfl, ?_⟩; have n0_ := Aside0.mk (Kd.N_below (by (with_reducible repeat (first | apply Kd.N_alloc | apply Kd.N_drewN | apply Kd.N_drew)); exact (Kd.N_mono (Kd.N_far (p := ⟨gb166, 6, none⟩) (Kd.N_far (p := ⟨gb166, 5, none⟩) (Kd.N_far (p := ⟨gb166, 4, none⟩) (Kd.N_far (p := ⟨gb166, 3, none⟩) (Kd.N_far (p := ⟨gb166, 2, none⟩) (Kd.N_far (p := ⟨gb166, 1, none⟩) (Kd.N_far (p := ⟨gb166, 0, none⟩) (Kd.N_mono HO_7.out (fun k_ hk => (⟨hk, hk.2⟩ : _ ∧ k_ ≠ gb166))) (fun _ hk => hk.2) (.int .i64 t159)) (fun _ hk => hk.2) (.int .i64 t160)) (fun _ hk => hk.2) (.int .i64 t161)) (fun _ hk => hk.2) (.int .i64 t162)) (fun _ hk => hk.2) (.int .i64 t163)) (fun _ hk => hk.2) (.int .i64 t164)) (fun _ hk => hk.2) (.int .i64 t165)) (fun _ h_ => h_.1))) hb); have n1_ := Aside0.mk (blk_below (g := gb166) (o := .cells #[.int .i64 t159, .int .i64 t160, .int .i64 t161, .int .i64 t162, .int .i64 t163, .int .i64 t164, .int .i64 t165] 24 (0, 0)) (by (with_reducible repeat (first | refine blk_drewN ?_ _ | refine blk_drew ?_ | refine blk_alloc ?_ _)); refine blk_put (cs := #[.int .i64 t159, .int .i64 t160, .int .i64 t161, .int .i64 t162, .int .i64 t163, .int .i64 t164, .int .i64 0]) ?_ 6 _ rfl; (with_reducible repeat (first | refine blk_drewN ?_ _ | refine blk_drew ?_ | refine blk_alloc ?_ _)); refine blk_put (cs := #[.int .i64 t159, .int .i64 t160, .int .i64 t161, .int .i64 t162, .int .i64 t163, .int .i64 0, .int .i64 0]) ?_ 5 _ rfl; (with_reducible repeat (first | refine blk_drewN ?_ _ | refine blk_drew ?_ | refine blk_alloc ?_ _)); refine blk_put (cs := #[.int .i64 t159, .int .i64 t160, .int .i64 t161, .int .i64 t162, .int .i64 0, .int .i64 0, .int .i64 0]) ?_ 4 _ rfl; (with_reducible repeat (first | refine blk_drewN ?_ _ | refine blk_drew ?_ | refine blk_alloc ?_ _)); refine blk_put (cs := #[.int .i64 t159, .int .i64 t160, .int .i64 t161, .int .i64 0, .int .i64 0, .int .i64 0, .int .i64 0]) ?_ 3 _ rfl; (with_reducible repeat (first | refine blk_drewN ?_ _ | refine blk_drew ?_ | refine blk_alloc ?_ _)); refine blk_put (cs := #[.int .i64 t159, .int .i64 t160, .int .i64 0, .int .i64 0, .int .i64 0, .int .i64 0, .int .i64 0]) ?_ 2 _ rfl; (with_reducible repeat (first | refine blk_drewN ?_ _ | refine blk_drew ?_ | refine blk_alloc ?_ _)); refine blk_put (cs := #[.int .i64 t159, .int .i64 0, .int .i64 0, .int .i64 0, .int .i64 0, .int .i64 0, .int .i64 0]) ?_ 1 _ rfl; (with_reducible repeat (first | refine blk_drewN ?_ _ | refine blk_drew ?_ | refine blk_alloc ?_ _)); refine blk_put (cs := #[.int .i64 0, .int .i64 0, .int .i64 0, .int .i64 0, .int .i64 0, .int .i64 0, .int .i64 0]) ?_ 0 _ rfl; (with_reducible repeat (first | refine blk_drewN ?_ _ | refine blk_drew ?_ | refine blk_alloc ?_ _)); exact BK166.out) hb); have n2_ := Aside0.mk (below_step (by repeat (first | (with_reducible first | exact HB.out | apply below_alloc | apply pw_below_drewN | apply below_drew1 | refine below_set ?_ GE166.out) | exact HB.out)) hb); clear HO_7; clear BK166; clear HB; have HO_7 := n0_; have BK166 := n1_; have HB := n2_; clear n0_ n1_ n2_; (try clear hb); (try clear hb2); (try clear hk); (try clear hi)) | (go_at_call 18; (with_reducible refine (event_Covers.calls k2 _ _ x7_2 (wrap64 (x8_2 + 1)) false _ ?side1 ?side2 A37.out).mono ?_); (case side1 => repeat (first | exact (Kd.N_reads' HO_7.out).2.2 | (with_reducible refine Kd.C_alloc ?_ _) | (with_reducible refine Kd.C_drewN ?_ _) | (with_reducible refine Kd.C_drew ?_))); (case side2 => exact (Kd.N_reads' HO_7.out).2.1); rintro e w52 ⟨rfl, hb⟩; have n0_ := Aside0.mk (Kd.N_below (by (with_reducible repeat (first | apply Kd.N_alloc | apply Kd.N_drewN | apply Kd.N_drew)); exact HO_7.out) hb); have n1_ := Aside0.mk (blk_below (g := gb166) (o := .cells #[.int .i64 t159, .int .i64 t160, .int .i64 t161, .int .i64 t162, .int .i64 t163, .int .i64 t164, .int .i64 t165] 24 (0, 0)) (by (with_reducible repeat (first | refine blk_drewN ?_ _ | refine blk_drew ?_ | refine blk_alloc ?_ _)); exact BK166.out) hb); have n2_ := Aside0.mk (below_step (by repeat (first | (with_reducible first | exact HB.out | apply below_alloc | apply pw_below_drewN | apply below_drew1 | refine below_set ?_ GE166.out) | exact HB.out)) hb); clear HO_7; clear BK166; clear HB; have HO_7 := n0_; have BK166 := n1_; have HB := n2_; clear n0_ n1_ n2_; (try clear hb); (try clear hb2); (try clear hk); (try clear hi)) | (go_at_call 18; (with_reducible refine (event_Covers.calls k2 _ _ x7_2 (wrap64 (x8_2 - 1)) false _ ?side1 ?side2 A41.out).mono ?_); (case side1 => repeat (first | exact (Kd.N_reads' HO_7.out).2.2 | (with_reducible refine Kd.C_alloc ?_ _) | (with_reducible refine Kd.C_drewN ?_ _) | (with_reducible refine Kd.C_drew ?_))); (case side2 => exact (Kd.N_reads' HO_7.out).2.1); rintro e w53 ⟨rfl, hb⟩; have n0_ := Aside0.mk (Kd.N_below (by (with_reducible repeat (first | apply Kd.N_alloc | apply Kd.N_drewN | apply Kd.N_drew)); exact HO_7.out) hb); have n1_ := Aside0.mk (blk_below (g := gb166) (o := .cells #[.int .i64 t159, .int .i64 t160, .int .i64 t161, .int .i64 t162, .int .i64 t163, .int .i64 t164, .int .i64 t165] 24 (0, 0)) (by (with_reducible repeat (first | refine blk_drewN ?_ _ | refine blk_drew ?_ | refine blk_alloc ?_ _)); exact BK166.out) hb); have n2_ := Aside0.mk (below_step (by repeat (first | (with_reducible first | exact HB.out | apply below_alloc | apply pw_below_drewN | apply below_drew1 | refine below_set ?_ GE166.out) | exact HB.out)) hb); clear HO_7; clear BK166; clear HB; have HO_7 := n0_; have BK166 := n1_; have HB := n2_; clear n0_ n1_ n2_; (try clear hb); (try clear hb2); (try clear hk); (try clear hi); have hcz54_0 : w53.cell? ⟨gb166, 0, none⟩ = some (.int .i64 t159) := (blk_cell BK166.out 0).trans rfl; have hcz54_1 : w53.cell? ⟨gb166, 1, none⟩ = some (.int .i64 t160) := (blk_cell BK166.out 1).trans rfl; have hcz54_2 : w53.cell? ⟨gb166, 2, none⟩ = some (.int .i64 t161) := (blk_cell BK166.out 2).trans rfl; have hcz54_3 : w53.cell? ⟨gb166, 3, none⟩ = some (.int .i64 t162) := (blk_cell BK166.out 3).trans rfl; have hcz54_4 : w53.cell? ⟨gb166, 4, none⟩ = some (.int .i64 t163) := (blk_cell BK166.out 4).trans rfl; have hcz54_5 : w53.cell? ⟨gb166, 5, none⟩ = some (.int .i64 t164) := (blk_cell BK166.out 5).trans rfl; have hcz54_6 : w53.cell? ⟨gb166, 6, none⟩ = some (.int .i64 t165) := (blk_cell BK166.out 6).trans rfl; have hfz54_0 := blk_frozen BK166.out 0; have hfz54_1 := blk_frozen BK166.out 1; have hfz54_2 := blk_frozen BK166.out 2; have hfz54_3 := blk_frozen BK166.out 3; have hfz54_4 := blk_frozen BK166.out 4; have hfz54_5 := blk_frozen BK166.out 5; have hfz54_6 := blk_frozen BK166.out 6))
                        go_meet
                        case rel => exact ⟨_, (true), (by first | rfl | (simp; done) | (simp [*]; done)), H', ⟨by have := HJ3.out; have := HK2.out; first | omega | exact Nat.le_refl _⟩, ⟨by (with_reducible repeat (first | apply Kd.N_alloc | apply Kd.N_drewN | apply Kd.N_drew)); exact Kd.N_mono HO_7.out (fun _ hk => hk.2)⟩, ⟨by (with_reducible repeat (first | refine blk_drewN ?_ _ | refine blk_drew ?_ | refine blk_alloc ?_ _)); exact BK166.out⟩, ⟨by repeat (first | (with_reducible first | exact HB.out | apply below_alloc | apply pw_below_drewN | apply below_drew1 | refine below_set ?_ GE166.out) | exact HB.out)⟩⟩
                · replace c36 := Bool.eq_false_iff.mpr c36
                  subst c36
                  have H1 : (forebaylaw21_EventCovers.j2 k2 a2 x7_2 x8_2 true) = some r := by rw [if_neg (show ¬ (false = true) by decide)] at H; exact H
                  clear H
                  have H := H1
                  clear H1
                  have H' := Aside0.mk H
                  clear H
                  go_wp2_with (first | ((with_reducible refine gate_callee (f := 18) rfl ?_); refine goesL_ (some 68) rfl rfl Try.func18 (by kernel_rfl) rfl #[.slice Ao31 x7_2.length co31, .int .i64 x8_2] rfl (by (try simp only [List.map_toArray, List.map_cons, List.map_nil]); first | done | rfl | (simp only [List.length_drop, List.length_take]; rfl)) ?_; (with_reducible refine (event_Covers.calls k2 _ _ x7_2 x8_2 false _ ?side1 ?side2 A35.out).mono ?_); (case side1 => refine (Kd.N_reads' (e := 46) (base := w.heap.size) (ok := fun k_ => (True ∧ k_ ≠ gb166)) (n := x7_2.length) (c := co31) ?_).2.2; exact (by (with_reducible repeat (first | apply Kd.N_alloc | apply Kd.N_drewN | apply Kd.N_drew)); exact (Kd.N_mono (Kd.N_far (p := ⟨gb166, 6, none⟩) (Kd.N_far (p := ⟨gb166, 5, none⟩) (Kd.N_far (p := ⟨gb166, 4, none⟩) (Kd.N_far (p := ⟨gb166, 3, none⟩) (Kd.N_far (p := ⟨gb166, 2, none⟩) (Kd.N_far (p := ⟨gb166, 1, none⟩) (Kd.N_far (p := ⟨gb166, 0, none⟩) (Kd.N_mono HO_7.out (fun k_ hk => (⟨hk, hk.2⟩ : _ ∧ k_ ≠ gb166))) (fun _ hk => hk.2) (.int .i64 t159)) (fun _ hk => hk.2) (.int .i64 t160)) (fun _ hk => hk.2) (.int .i64 t161)) (fun _ hk => hk.2) (.int .i64 t162)) (fun _ hk => hk.2) (.int .i64 t163)) (fun _ hk => hk.2) (.int .i64 t164)) (fun _ hk => hk.2) (.int .i64 t165)) (fun _ h_ => h_.1)))); (case side2 => exact (Kd.N_reads' HO_7.out).2.1); rintro e w55 ⟨rfl, hb⟩; refine ⟨_, rfl, ?_⟩; have n0_ := Aside0.mk (Kd.N_below (by (with_reducible repeat (first | apply Kd.N_alloc | apply Kd.N_drewN | apply Kd.N_drew)); exact (Kd.N_mono (Kd.N_far (p := ⟨gb166, 6, none⟩) (Kd.N_far (p := ⟨gb166, 5, none⟩) (Kd.N_far (p := ⟨gb166, 4, none⟩) (Kd.N_far (p := ⟨gb166, 3, none⟩) (Kd.N_far (p := ⟨gb166, 2, none⟩) (Kd.N_far (p := ⟨gb166, 1, none⟩) (Kd.N_far (p := ⟨gb166, 0, none⟩) (Kd.N_mono HO_7.out (fun k_ hk => (⟨hk, hk.2⟩ : _ ∧ k_ ≠ gb166))) (fun _ hk => hk.2) (.int .i64 t159)) (fun _ hk => hk.2) (.int .i64 t160)) (fun _ hk => hk.2) (.int .i64 t161)) (fun _ hk => hk.2) (.int .i64 t162)) (fun _ hk => hk.2) (.int .i64 t163)) (fun _ hk => hk.2) (.int .i64 t164)) (fun _ hk => hk.2) (.int .i64 t165)) (fun _ h_ => h_.1))) hb); have n1_ := Aside0.mk (blk_below (g := gb166) (o := .cells #[.int .i64 t159, .int .i64 t160, .int .i64 t161, .int .i64 t162, .int .i64 t163, .int .i64 t164, .int .i64 t165] 24 (0, 0)) (by (with_reducible repeat (first | refine blk_drewN ?_ _ | refine blk_drew ?_ | refine blk_alloc ?_ _)); refine blk_put (cs := #[.int .i64 t159, .int .i64 t160, .int .i64 t161, .int .i64 t162, .int .i64 t163, .int .i64 t164, .int .i64 0]) ?_ 6 _ rfl; (with_reducible repeat (first | refine blk_drewN ?_ _ | refine blk_drew ?_ | refine blk_alloc ?_ _)); refine blk_put (cs := #[.int .i64 t159, .int .i64 t160, .int .i64 t161, .int .i64 t162, .int .i64 t163, .int .i64 0, .int .i64 0]) ?_ 5 _ rfl; (with_reducible repeat (first | refine blk_drewN ?_ _ | refine blk_drew ?_ | refine blk_alloc ?_ _)); refine blk_put (cs := #[.int .i64 t159, .int .i64 t160, .int .i64 t161, .int .i64 t162, .int .i64 0, .int .i64 0, .int .i64 0]) ?_ 4 _ rfl; (with_reducible repeat (first | refine blk_drewN ?_ _ | refine blk_drew ?_ | refine blk_alloc ?_ _)); refine blk_put (cs := #[.int .i64 t159, .int .i64 t160, .int .i64 t161, .int .i64 0, .int .i64 0, .int .i64 0, .int .i64 0]) ?_ 3 _ rfl; (with_reducible repeat (first | refine blk_drewN ?_ _ | refine blk_drew ?_ | refine blk_alloc ?_ _)); refine blk_put (cs := #[.int .i64 t159, .int .i64 t160, .int .i64 0, .int .i64 0, .int .i64 0, .int .i64 0, .int .i64 0]) ?_ 2 _ rfl; (with_reducible repeat (first | refine blk_drewN ?_ _ | refine blk_drew ?_ | refine blk_alloc ?_ _)); refine blk_put (cs := #[.int .i64 t159, .int .i64 0, .int .i64 0, .int .i64 0, .int .i64 0, .int .i64 0, .int .i64 0]) ?_ 1 _ rfl; (with_reducible repeat (first | refine blk_drewN ?_ _ | refine blk_drew ?_ | refine blk_alloc ?_ _)); refine blk_put (cs := #[.int .i64 0, .int .i64 0, .int .i64 0, .int .i64 0, .int .i64 0, .int .i64 0, .int .i64 0]) ?_ 0 _ rfl; (with_reducible repeat (first | refine blk_drewN ?_ _ | refine blk_drew ?_ | refine blk_alloc ?_ _)); exact BK166.out) hb); have n2_ := Aside0.mk (below_step (by repeat (first | (with_reducible first | exact HB.out | apply below_alloc | apply pw_below_drewN | apply below_drew1 | refine below_set ?_ GE166.out) | exact HB.out)) hb); clear HO_7; clear BK166; clear HB; have HO_7 := n0_; have BK166 := n1_; have HB := n2_; clear n0_ n1_ n2_; (try clear hb); (try clear hb2); (try clear hk); (try clear hi)))
                  go_meet
                  case rel => exact ⟨_, (true), (by first | rfl | (simp; done) | (simp [*]; done)), H', ⟨by have := HJ3.out; have := HK2.out; first | omega | exact Nat.le_refl _⟩, ⟨by (with_reducible repeat (first | apply Kd.N_alloc | apply Kd.N_drewN | apply Kd.N_drew)); exact Kd.N_mono HO_7.out (fun _ hk => hk.2)⟩, ⟨by (with_reducible repeat (first | refine blk_drewN ?_ _ | refine blk_drew ?_ | refine blk_alloc ?_ _)); exact BK166.out⟩, ⟨by repeat (first | (with_reducible first | exact HB.out | apply below_alloc | apply pw_below_drewN | apply below_drew1 | refine below_set ?_ GE166.out) | exact HB.out)⟩⟩
              case rest =>
                clear HC30
                try clear c1
                try clear p1
                try clear q1
                try clear hx1
                try clear c2
                try clear p2
                try clear c3
                try clear c4
                try clear c5
                try clear c5b0
                try clear c5b1
                try clear c6
                try clear p6
                try clear c10
                try clear c11
                try clear c11b0
                try clear c12
                try clear c12b0
                try clear c12b1
                try clear c13
                try clear c13b0
                try clear c13b1
                try clear c13b2
                try clear p14
                try clear q14
                try clear hx14
                try clear c15
                try clear c15b0
                try clear p15
                try clear q15
                try clear hx15
                try clear c16
                try clear c16b0
                try clear c18
                try clear c18b0
                try clear c19
                try clear c19b0
                try clear c20
                try clear c20b0
                try clear c21
                try clear c26
                try clear c26b0
                try clear c27
                try clear c36
                try clear c38
                try clear c42
                try clear c46
                try clear c46b0
                try clear c46b1
                try clear hcz34_0
                try clear hcz34_1
                try clear hcz34_2
                try clear hcz34_3
                try clear hcz34_4
                try clear hcz34_5
                try clear hcz34_6
                try clear hcz50_0
                try clear hcz50_1
                try clear hcz50_2
                try clear hcz50_3
                try clear hcz50_4
                try clear hcz50_5
                try clear hcz50_6
                try clear hcz54_0
                try clear hcz54_1
                try clear hcz54_2
                try clear hcz54_3
                try clear hcz54_4
                try clear hcz54_5
                try clear hcz54_6
                try clear hfz34_0
                try clear hfz34_1
                try clear hfz34_2
                try clear hfz34_3
                try clear hfz34_4
                try clear hfz34_5
                try clear hfz34_6
                try clear hfz50_0
                try clear hfz50_1
                try clear hfz50_2
                try clear hfz50_3
                try clear hfz50_4
                try clear hfz50_5
                try clear hfz50_6
                try clear hfz54_0
                try clear hfz54_1
                try clear hfz54_2
                try clear hfz54_3
                try clear hfz54_4
                try clear hfz54_5
                try clear hfz54_6
                try clear hx149_0
                try clear hx150_0
                try clear hx151_0
                try clear hx155_0
                try clear p149
                try clear p150
                try clear p151
                try clear p155
                try clear p2
                try clear q149
                try clear q150
                try clear q151
                try clear q155
                obtain ⟨kq, x106_29, rfl, HA, HJ29, HO_7, BK166, HB⟩ := hcut
                cases kq with
                | zero => exact absurd HA.out (by simp [forebaylaw21_EventCovers.j2])
                | succ kj29 =>
                  have H := HA.out
                  clear HA
                  simp only [forebaylaw21_EventCovers.j2] at H
                  by_cases c56 : x106_29 = true
                  · subst c56
                    have H1 : (some false) = some r := by rw [if_pos rfl] at H; exact H
                    clear H
                    have H := H1
                    clear H1
                    obtain rfl := Option.some.inj H
                    go_wp2
                    go_ret
                    exact ⟨by first | rfl | (simp [errW_none, errW_some] <;> rfl) | (simp [*, errW_none, errW_some] <;> rfl), by repeat (first | (with_reducible first | exact HB.out | apply below_alloc | apply pw_below_drewN | apply below_drew1 | refine below_set ?_ GE166.out) | exact HB.out)⟩
                  · replace c56 := Bool.eq_false_iff.mpr c56
                    subst c56
                    have H1 : (if a2 < 0 then (forebaylaw21_EventCovers.j3 kj29 a2 x7_2 x8_2 true) else (forebaylaw21_EventCovers.j3 kj29 a2 x7_2 x8_2 (decide (a2 ≥ (x7_2.length : Int))))) = some r := by rw [if_neg (show ¬ (false = true) by decide)] at H; exact H
                    clear H
                    have H := H1
                    clear H1
                    have HC57 := Aside0.mk H
                    clear H
                    go_upto_region 17 with (fail)
                    go_cut [114] (fun v114 wc => ∃ (kq : Nat) (x114_56 : Bool), v114 = .bool x114_56 ∧ Aside0 (forebaylaw21_EventCovers.j3 kq a2 x7_2 x8_2 x114_56 = some r) ∧ Aside0 (kq ≤ kj29) ∧ Aside0 (Kd.N k46 46 wc w.heap.size (fun k_ => k_ ≠ gb166) (.slice Ao31 x7_2.length co31) x7_2) ∧ Aside0 (wc.heap[gb166]? = some (.cells #[.int .i64 t159, .int .i64 t160, .int .i64 t161, .int .i64 t162, .int .i64 t163, .int .i64 t164, .int .i64 t165] 24 (0, 0))) ∧ Aside0 (Below w.heap.size w wc))
                    case first =>
                      have H := HC57.out
                      clear HC57
                      by_cases c58 : a2 < 0
                      · rw [if_pos c58] at H
                        have c58b0 : decide (a2 < 0) = true := decide_eq_true c58
                        clear c58
                        (first | rw [c58b0] | (simp only [i64_w, i32_w]; rw [c58b0]) | skip)
                        have H' := Aside0.mk H
                        clear H
                        go_wp2
                        go_meet
                        case rel => exact ⟨_, (true), (by first | rfl | (simp; done) | (simp [*]; done)), H', ⟨by have := HJ3.out; have := HK2.out; have := HJ29.out; first | omega | exact Nat.le_refl _⟩, ⟨by (with_reducible repeat (first | apply Kd.N_alloc | apply Kd.N_drewN | apply Kd.N_drew)); exact HO_7.out⟩, ⟨by (with_reducible repeat (first | refine blk_drewN ?_ _ | refine blk_drew ?_ | refine blk_alloc ?_ _)); exact BK166.out⟩, ⟨by repeat (first | (with_reducible first | exact HB.out | apply below_alloc | apply pw_below_drewN | apply below_drew1 | refine below_set ?_ GE166.out) | exact HB.out)⟩⟩
                      · rw [if_neg c58] at H
                        have c58b0 : decide (a2 < 0) = false := decide_eq_false c58
                        clear c58
                        (first | rw [c58b0] | (simp only [i64_w, i32_w]; rw [c58b0]) | skip)
                        have H' := Aside0.mk H
                        clear H
                        go_wp2
                        go_meet
                        case rel => exact ⟨_, (decide (a2 ≥ (x7_2.length : Int))), (by first | rfl | (simp; done) | (simp [*]; done)), H', ⟨by have := HJ3.out; have := HK2.out; have := HJ29.out; first | omega | exact Nat.le_refl _⟩, ⟨by (with_reducible repeat (first | apply Kd.N_alloc | apply Kd.N_drewN | apply Kd.N_drew)); exact HO_7.out⟩, ⟨by (with_reducible repeat (first | refine blk_drewN ?_ _ | refine blk_drew ?_ | refine blk_alloc ?_ _)); exact BK166.out⟩, ⟨by repeat (first | (with_reducible first | exact HB.out | apply below_alloc | apply pw_below_drewN | apply below_drew1 | refine below_set ?_ GE166.out) | exact HB.out)⟩⟩
                    case rest =>
                      clear HC57
                      try clear c1
                      try clear p1
                      try clear q1
                      try clear hx1
                      try clear c2
                      try clear p2
                      try clear c3
                      try clear c4
                      try clear c5
                      try clear c5b0
                      try clear c5b1
                      try clear c6
                      try clear p6
                      try clear c10
                      try clear c11
                      try clear c11b0
                      try clear c12
                      try clear c12b0
                      try clear c12b1
                      try clear c13
                      try clear c13b0
                      try clear c13b1
                      try clear c13b2
                      try clear p14
                      try clear q14
                      try clear hx14
                      try clear c15
                      try clear c15b0
                      try clear p15
                      try clear q15
                      try clear hx15
                      try clear c16
                      try clear c16b0
                      try clear c18
                      try clear c18b0
                      try clear c19
                      try clear c19b0
                      try clear c20
                      try clear c20b0
                      try clear c21
                      try clear c26
                      try clear c26b0
                      try clear c27
                      try clear c36
                      try clear c38
                      try clear c42
                      try clear c46
                      try clear c46b0
                      try clear c46b1
                      try clear c56
                      try clear c58
                      try clear c58b0
                      try clear hcz34_0
                      try clear hcz34_1
                      try clear hcz34_2
                      try clear hcz34_3
                      try clear hcz34_4
                      try clear hcz34_5
                      try clear hcz34_6
                      try clear hcz50_0
                      try clear hcz50_1
                      try clear hcz50_2
                      try clear hcz50_3
                      try clear hcz50_4
                      try clear hcz50_5
                      try clear hcz50_6
                      try clear hcz54_0
                      try clear hcz54_1
                      try clear hcz54_2
                      try clear hcz54_3
                      try clear hcz54_4
                      try clear hcz54_5
                      try clear hcz54_6
                      try clear hfz34_0
                      try clear hfz34_1
                      try clear hfz34_2
                      try clear hfz34_3
                      try clear hfz34_4
                      try clear hfz34_5
                      try clear hfz34_6
                      try clear hfz50_0
                      try clear hfz50_1
                      try clear hfz50_2
                      try clear hfz50_3
                      try clear hfz50_4
                      try clear hfz50_5
                      try clear hfz50_6
                      try clear hfz54_0
                      try clear hfz54_1
                      try clear hfz54_2
                      try clear hfz54_3
                      try clear hfz54_4
                      try clear hfz54_5
                      try clear hfz54_6
                      try clear hx149_0
                      try clear hx150_0
                      try clear hx151_0
                      try clear hx155_0
                      try clear p1
                      try clear p14
                      try clear p149
                      try clear p15
                      try clear p150
                      try clear p151
                      try clear p155
                      try clear p2
                      try clear p6
                      try clear q1
                      try clear q14
                      try clear q149
                      try clear q15
                      try clear q150
                      try clear q151
                      try clear q155
                      obtain ⟨kq, x114_56, rfl, HA, HJ56, HO_7, BK166, HB⟩ := hcut
                      cases kq with
                      | zero => exact absurd HA.out (by simp [forebaylaw21_EventCovers.j3])
                      | succ kj56 =>
                        have H := HA.out
                        clear HA
                        simp only [forebaylaw21_EventCovers.j3] at H
                        by_cases c59 : x114_56 = true
                        · subst c59
                          have H1 : ((forebaylaw21_awake.f kj56).bind fun t170 => (some t170)) = some r := by rw [if_pos rfl] at H; exact H
                          clear H
                          have H := H1
                          clear H1
                          replace H := Option.bind_eq_some_iff.mp H
                          obtain ⟨t170, A600, H⟩ := H
                          replace H : (some t170) = some r := H
                          have A60 := Aside0.mk A600
                          clear A600
                          obtain rfl := Option.some.inj H
                          go_wp2_with (first | ((with_reducible refine gate_callee (f := 10) rfl ?_); refine goesL_ (some 115) rfl rfl Try.func10 (by kernel_rfl) rfl #[] rfl (by (try simp only [List.map_toArray, List.map_cons, List.map_nil]); first | done | rfl | (simp only [List.length_drop, List.length_take]; rfl)) ?_; (with_reducible refine (forebaylaw21_awake.calls kj56  t170 _ A60.out).mono ?_); rintro e w61 ⟨rfl, hb⟩; refine ⟨_, rfl, ?_⟩; have n0_ := Aside0.mk (Kd.N_below (by (with_reducible repeat (first | apply Kd.N_alloc | apply Kd.N_drewN | apply Kd.N_drew)); exact HO_7.out) hb); have n1_ := Aside0.mk (blk_below (g := gb166) (o := .cells #[.int .i64 t159, .int .i64 t160, .int .i64 t161, .int .i64 t162, .int .i64 t163, .int .i64 t164, .int .i64 t165] 24 (0, 0)) (by (with_reducible repeat (first | refine blk_drewN ?_ _ | refine blk_drew ?_ | refine blk_alloc ?_ _)); exact BK166.out) hb); have n2_ := Aside0.mk (below_step (by repeat (first | (with_reducible first | exact HB.out | apply below_alloc | apply pw_below_drewN | apply below_drew1 | refine below_set ?_ GE166.out) | exact HB.out)) hb); clear HO_7; clear BK166; clear HB; have HO_7 := n0_; have BK166 := n1_; have HB := n2_; clear n0_ n1_ n2_; (try clear hb); (try clear hb2); (try clear hk); (try clear hi)))
                          go_ret
                          exact ⟨by first | rfl | (simp [errW_none, errW_some] <;> rfl) | (simp [*, errW_none, errW_some] <;> rfl), by repeat (first | (with_reducible first | exact HB.out | apply below_alloc | apply pw_below_drewN | apply below_drew1 | refine below_set ?_ GE166.out) | exact HB.out)⟩
                        · replace c59 := Bool.eq_false_iff.mpr c59
                          subst c59
                          have H1 : ((some (([] : List (S46)) : List (S46))).bind fun y171 => (if 0 ≤ a2 then (if a2 ≤ (x7_2.length : Int) then ((some (x7_2.take (a2 : Int).toNat : List (S46))).bind fun y174 => (if y171.length + y174.length < 2199023255552 then ((some (y171 ++ y174 : List (S46))).bind fun y179 => (if 0 ≤ (wrap64 (a2 + 1)) then (if (wrap64 (a2 + 1)) ≤ (x7_2.length : Int) then ((some (x7_2.drop ((wrap64 (a2 + 1)) : Int).toNat : List (S46))).bind fun y182 => (if y179.length + y182.length < 2199023255552 then ((some (y179 ++ y182 : List (S46))).bind fun y187 => ((event_Covers.f kj56 y187 x8_2).bind fun t190 => (if t190 = true then (some false) else ((event_Equal.f y187 x7_2).bind fun t191 => (if t191 = true then (some false) else ((forebaylaw21_awake.f kj56).bind fun t192 => (some t192))))))) else (none))) else (none)) else (none))) else (none))) else (none)) else (none))) = some r := by rw [if_neg (show ¬ (false = true) by decide)] at H; exact H
                          clear H
                          have H := H1
                          clear H1
                          obtain ⟨y171, hy171⟩ : ∃ y_ : List (S46), y_ = (([] : List (S46))) := ⟨_, rfl⟩
                          replace H : (if 0 ≤ a2 then (if a2 ≤ (x7_2.length : Int) then ((some (x7_2.take (a2 : Int).toNat : List (S46))).bind fun y174 => (if y171.length + y174.length < 2199023255552 then ((some (y171 ++ y174 : List (S46))).bind fun y179 => (if 0 ≤ (wrap64 (a2 + 1)) then (if (wrap64 (a2 + 1)) ≤ (x7_2.length : Int) then ((some (x7_2.drop ((wrap64 (a2 + 1)) : Int).toNat : List (S46))).bind fun y182 => (if y179.length + y182.length < 2199023255552 then ((some (y179 ++ y182 : List (S46))).bind fun y187 => ((event_Covers.f kj56 y187 x8_2).bind fun t190 => (if t190 = true then (some false) else ((event_Equal.f y187 x7_2).bind fun t191 => (if t191 = true then (some false) else ((forebaylaw21_awake.f kj56).bind fun t192 => (some t192))))))) else (none))) else (none)) else (none))) else (none))) else (none)) else (none)) = some r := by first | (rw [hy171]; with_reducible exact H) | (have H2_ := (Option.bind_some _ _).symm.trans H; rw [hy171]; with_reducible exact H2_) | (have H2_ := (Option.bind_some _ _).symm.trans H; with_reducible exact H2_) | with_reducible exact H | (rw [hy171]; exact H) | exact H
                          have Ny171 := Aside0.mk hy171
                          clear hy171
                          by_cases c62 : 0 ≤ a2
                          · rw [if_pos c62] at H
                            have c62b0 := eq_true c62
                            have c62b1 : decide (0 ≤ a2) = true := decide_eq_true c62
                            clear c62
                            by_cases c63 : a2 ≤ (x7_2.length : Int)
                            · rw [if_pos c63] at H
                              have c63b0 := eq_true c63
                              have c63b1 : decide (a2 ≤ (x7_2.length : Int)) = true := decide_eq_true c63
                              clear c63
                              obtain ⟨y174, hy174⟩ : ∃ y_ : List (S46), y_ = (x7_2.take (a2 : Int).toNat) := ⟨_, rfl⟩
                              replace H : (if y171.length + y174.length < 2199023255552 then ((some (y171 ++ y174 : List (S46))).bind fun y179 => (if 0 ≤ (wrap64 (a2 + 1)) then (if (wrap64 (a2 + 1)) ≤ (x7_2.length : Int) then ((some (x7_2.drop ((wrap64 (a2 + 1)) : Int).toNat : List (S46))).bind fun y182 => (if y179.length + y182.length < 2199023255552 then ((some (y179 ++ y182 : List (S46))).bind fun y187 => ((event_Covers.f kj56 y187 x8_2).bind fun t190 => (if t190 = true then (some false) else ((event_Equal.f y187 x7_2).bind fun t191 => (if t191 = true then (some false) else ((forebaylaw21_awake.f kj56).bind fun t192 => (some t192))))))) else (none))) else (none)) else (none))) else (none)) = some r := by first | (rw [hy174]; with_reducible exact H) | (have H2_ := (Option.bind_some _ _).symm.trans H; rw [hy174]; with_reducible exact H2_) | (have H2_ := (Option.bind_some _ _).symm.trans H; with_reducible exact H2_) | with_reducible exact H | (rw [hy174]; exact H) | exact H
                              have Ny174 := Aside0.mk hy174
                              clear hy174
                              by_cases c64 : y171.length + y174.length < 2199023255552
                              · rw [if_pos c64] at H
                                have LMc64 := Aside0.mk c64
                                clear c64
                                obtain ⟨y179, hy179⟩ : ∃ y_ : List (S46), y_ = (y171 ++ y174) := ⟨_, rfl⟩
                                replace H : (if 0 ≤ (wrap64 (a2 + 1)) then (if (wrap64 (a2 + 1)) ≤ (x7_2.length : Int) then ((some (x7_2.drop ((wrap64 (a2 + 1)) : Int).toNat : List (S46))).bind fun y182 => (if y179.length + y182.length < 2199023255552 then ((some (y179 ++ y182 : List (S46))).bind fun y187 => ((event_Covers.f kj56 y187 x8_2).bind fun t190 => (if t190 = true then (some false) else ((event_Equal.f y187 x7_2).bind fun t191 => (if t191 = true then (some false) else ((forebaylaw21_awake.f kj56).bind fun t192 => (some t192))))))) else (none))) else (none)) else (none)) = some r := by first | (rw [hy179]; with_reducible exact H) | (have H2_ := (Option.bind_some _ _).symm.trans H; rw [hy179]; with_reducible exact H2_) | (have H2_ := (Option.bind_some _ _).symm.trans H; with_reducible exact H2_) | with_reducible exact H | (rw [hy179]; exact H) | exact H
                                have Ny179 := Aside0.mk hy179
                                clear hy179
                                obtain ⟨ji65, hji65⟩ : ∃ j_ : Int, (wrap64 (a2 + 1)) = j_ := ⟨_, rfl⟩
                                replace H : (if 0 ≤ (ji65) then (if (ji65) ≤ (x7_2.length : Int) then ((some (x7_2.drop ((ji65) : Int).toNat : List (S46))).bind fun y182 => (if y179.length + y182.length < 2199023255552 then ((some (y179 ++ y182 : List (S46))).bind fun y187 => ((event_Covers.f kj56 y187 x8_2).bind fun t190 => (if t190 = true then (some false) else ((event_Equal.f y187 x7_2).bind fun t191 => (if t191 = true then (some false) else ((forebaylaw21_awake.f kj56).bind fun t192 => (some t192))))))) else (none))) else (none)) else (none)) = some r := by first | (rw [hji65] at H; exact H) | (simp only [hji65] at H ⊢; exact H)
                                have hji65w : (IntKind.i64.wrap (a2 + 1)) = ji65 := (i64_w _).trans hji65
                                by_cases c66 : 0 ≤ (ji65)
                                · rw [if_pos c66] at H
                                  have c66b0 := eq_true c66
                                  have c66b1 : decide (0 ≤ (ji65)) = true := decide_eq_true c66
                                  clear c66
                                  by_cases c67 : (ji65) ≤ (x7_2.length : Int)
                                  · rw [if_pos c67] at H
                                    have c67b0 := eq_true c67
                                    have c67b1 : decide ((ji65) ≤ (x7_2.length : Int)) = true := decide_eq_true c67
                                    clear c67
                                    obtain ⟨y182, hy182⟩ : ∃ y_ : List (S46), y_ = (x7_2.drop ((ji65) : Int).toNat) := ⟨_, rfl⟩
                                    replace H : (if y179.length + y182.length < 2199023255552 then ((some (y179 ++ y182 : List (S46))).bind fun y187 => ((event_Covers.f kj56 y187 x8_2).bind fun t190 => (if t190 = true then (some false) else ((event_Equal.f y187 x7_2).bind fun t191 => (if t191 = true then (some false) else ((forebaylaw21_awake.f kj56).bind fun t192 => (some t192))))))) else (none)) = some r := by first | (rw [hy182]; with_reducible exact H) | (have H2_ := (Option.bind_some _ _).symm.trans H; rw [hy182]; with_reducible exact H2_) | (have H2_ := (Option.bind_some _ _).symm.trans H; with_reducible exact H2_) | with_reducible exact H | (rw [hy182]; exact H) | exact H
                                    have Ny182 := Aside0.mk hy182
                                    clear hy182
                                    by_cases c68 : y179.length + y182.length < 2199023255552
                                    · rw [if_pos c68] at H
                                      have LMc68 := Aside0.mk c68
                                      clear c68
                                      obtain ⟨y187, hy187⟩ : ∃ y_ : List (S46), y_ = (y179 ++ y182) := ⟨_, rfl⟩
                                      replace H : ((event_Covers.f kj56 y187 x8_2).bind fun t190 => (if t190 = true then (some false) else ((event_Equal.f y187 x7_2).bind fun t191 => (if t191 = true then (some false) else ((forebaylaw21_awake.f kj56).bind fun t192 => (some t192)))))) = some r := by first | (rw [hy187]; with_reducible exact H) | (have H2_ := (Option.bind_some _ _).symm.trans H; rw [hy187]; with_reducible exact H2_) | (have H2_ := (Option.bind_some _ _).symm.trans H; with_reducible exact H2_) | with_reducible exact H | (rw [hy187]; exact H) | exact H
                                      have Ny187 := Aside0.mk hy187
                                      clear hy187
                                      replace H := Option.bind_eq_some_iff.mp H
                                      obtain ⟨t190, A690, H⟩ := H
                                      replace H : (if t190 = true then (some false) else ((event_Equal.f y187 x7_2).bind fun t191 => (if t191 = true then (some false) else ((forebaylaw21_awake.f kj56).bind fun t192 => (some t192))))) = some r := H
                                      have A69 := Aside0.mk A690
                                      clear A690
                                      by_cases c70 : t190 = true
                                      · subst c70
                                        have H1 : (some false) = some r := by rw [if_pos rfl] at H; exact H
                                        clear H
                                        have H := H1
                                        clear H1
                                        obtain rfl := Option.some.inj H
                                        try go_wp2
                                        have n0_ := Aside0.mk (Kd.N_drew HO_7.out)
                                        have n1_ := Aside0.mk (blk_drew BK166.out)
                                        have n2_ := Aside0.mk (below_drew1 HB.out)
                                        clear HO_7
                                        clear BK166
                                        clear HB
                                        have HO_7 := n0_
                                        have BK166 := n1_
                                        have HB := n2_
                                        clear n0_ n1_ n2_
                                        have q72 : (a2 : Int) ≤ ((x7_2.length : Int) : Int) := of_decide_eq_true (by first | (with_reducible assumption) | assumption)
                                        obtain ⟨i072, hi072, _, hsz72, _⟩ := info_parts info46
                                        have hroom72 : x7_2.length ≤ co31 := (Kd.N_reads' HO_7.out).2.1
                                        have hC72 : Kd.F k46 _ _ Ao31 x7_2.length x7_2 := (Kd.V_at (base := w.heap.size) (Kd.N_V HO_7.out)).2.2
                                        have hcut72 := cut_to (P := Try.prog) 22 46 .i64 Try.underlying22 hi072 Ao31 x7_2.length co31 a2 (of_decide_eq_true (by first | (with_reducible assumption) | assumption)) q72 hroom72
                                        have hr72 := Kd.F_take (m := (a2 : Int).toNat) hC72 (by omega)
                                        have hy72 : y174.length = (a2 : Int).toNat := (by rw [Ny174.out, List.length_take]; omega)
                                        rw [← Ny174.out] at hr72
                                        rw [← hy72] at hcut72
                                        have HO178 := Aside0.mk (show Kd.V k46 46 _ w.heap.size _ (.slice Ao31 y174.length co31) y174 from Kd.V_mk (by omega) hr72)
                                        have HC178 := Aside0.mk (show y174.length ≤ co31 from by omega)
                                        clear hr72 hC72 hroom72 hi072 hsz72
                                        have KY72 := Aside0.mk hy72
                                        clear hy72
                                        replace q72 := eq_true q72
                                        have q73 : ((ji65) : Int) ≤ ((x7_2.length : Int) : Int) := of_decide_eq_true (by first | (with_reducible assumption) | assumption)
                                        obtain ⟨i073, hi073, _, hsz73, _⟩ := info_parts info46
                                        have hroom73 : x7_2.length ≤ co31 := (Kd.N_reads' HO_7.out).2.1
                                        have hC73 : Kd.F k46 _ _ Ao31 x7_2.length x7_2 := (Kd.V_at (base := w.heap.size) (Kd.N_V HO_7.out)).2.2
                                        have q073 : (0 : Int) ≤ ((ji65) : Int) := of_decide_eq_true (by first | (with_reducible assumption) | assumption)
                                        have hcut73 := cut_from (P := Try.prog) 22 46 .i64 Try.underlying22 hi073 6 hsz73 Ao31 x7_2.length co31 (ji65) q073 q73
                                        have hr73 := Kd.F_cut (m := ((ji65) : Int).toNat) (c := co31) hC73 (by omega) hroom73
                                        obtain ⟨A73, hA73⟩ : ∃ A1, A1 = (if co31 = ((ji65) : Int).toNat then Ao31 else (Ao31 : Option Addr).map (·.add (((ji65) : Int).toNat * 6))) := ⟨_, rfl⟩
                                        obtain ⟨c73, hc73⟩ : ∃ c1, c1 = co31 - ((ji65) : Int).toNat := ⟨_, rfl⟩
                                        have hy73 : y182.length = x7_2.length - ((ji65) : Int).toNat := (by rw [Ny182.out, List.length_drop] <;> omega)
                                        rw [show (x7_2).drop ((ji65) : Int).toNat = y182 from Ny182.out.symm] at hr73
                                        replace hr73 : Kd.F k46 _ _ A73 y182.length y182 := (by rw [hA73]; exact hr73)
                                        rw [← hy73, ← hA73, ← hc73] at hcut73
                                        have HO186 := Aside0.mk (show Kd.V k46 46 _ w.heap.size _ (.slice A73 y182.length c73) y182 from Kd.V_mk (by rw [hy73, hc73]; exact Nat.sub_le_sub_right hroom73 _) hr73)
                                        have HC186 := Aside0.mk (show y182.length ≤ c73 from by rw [hy73, hc73]; exact Nat.sub_le_sub_right hroom73 _)
                                        clear hr73 hC73 hroom73 hi073 hsz73 hc73
                                        have KY73 := Aside0.mk hy73
                                        have KA73 := Aside0.mk hA73
                                        clear hy73 hA73
                                        replace q73 := eq_true q73
                                        refine start_ (n := 11) (S := fun w' => True) (ds := []) #[false, false, false, false, false, false, false, false, false, false, false] (by kernel_rfl) rfl rfl trivial (fun hHeld => ?_); refine with_tabW forebaylaw21_EventCovers.tab19 forebaylaw21_EventCovers.bits19 (fun HT_ HW_ => ?_)
                                        generalize wc.drew = w71 at HO_7 BK166 HB HO178 HO186 hHeld ⊢
                                        refine pure_ (i := 1) (N := some 117) (v := ?_) (a' := ?_) #[false, true, false, false, false, false, false, false, false, false, false] rfl rfl (any_of HT_.out (by kernel_rfl)) (fun _ _ _ h => h) (Or.inl ⟨by rfl, ?_⟩) ?_ ?_
                                        rotate_left
                                        · intro w'
                                          go_simp
                                          with_reducible rfl
                                        rotate_left
                                        · simp only [Act.put, List.setIfInBounds_toArray, List.set_cons_zero, List.set_cons_succ, i64_w, i32_w]
                                          rfl
                                        refine pure_ (i := 2) (N := some 118) (v := ?_) (a' := ?_) #[false, true, true, false, false, false, false, false, false, false, false] rfl rfl (any_of HT_.out (by kernel_rfl)) (fun _ _ _ h => h) (Or.inl ⟨by rfl, ?_⟩) ?_ ?_
                                        rotate_left
                                        · intro w'
                                          go_simp
                                          with_reducible rfl
                                        rotate_left
                                        · simp only [Act.put, List.setIfInBounds_toArray, List.set_cons_zero, List.set_cons_succ, i64_w, i32_w]
                                          rfl
                                        refine pure_ (i := 3) (N := some 119) (v := ?_) (a' := ?_) #[false, true, true, true, false, false, false, false, false, false, false] rfl rfl (any_of HT_.out (by kernel_rfl)) (fun _ _ _ h => h) (Or.inl ⟨by rfl, ?_⟩) ?_ ?_
                                        rotate_left
                                        · intro w'
                                          go_simp
                                          with_reducible rfl
                                        rotate_left
                                        · simp only [Act.put, List.setIfInBounds_toArray, List.set_cons_zero, List.set_cons_succ, i64_w, i32_w]
                                          rfl
                                        refine pure_ (i := 5) (N := some 121) (v := ?_) (a' := ?_) #[false, true, true, true, false, true, false, false, false, false, false] rfl rfl (any_of HT_.out (by kernel_rfl)) (fun _ _ _ h => h) (Or.inl ⟨by rfl, ?_⟩) ?_ ?_
                                        rotate_left
                                        · intro w'
                                          go_simp
                                          with_reducible rfl
                                        rotate_left
                                        · simp only [Act.put, List.setIfInBounds_toArray, List.set_cons_zero, List.set_cons_succ, i64_w, i32_w]
                                          rfl
                                        refine pure_ (i := 6) (N := some 122) (v := ?_) (a' := ?_) #[false, true, true, true, false, true, true, false, false, false, false] rfl rfl (any_of HT_.out (by kernel_rfl)) (fun _ _ _ h => h) (Or.inl ⟨by rfl, ?_⟩) ?_ ?_
                                        rotate_left
                                        · intro w'
                                          go_simp
                                          with_reducible rfl
                                        rotate_left
                                        · simp only [Act.put, List.setIfInBounds_toArray, List.set_cons_zero, List.set_cons_succ, i64_w, i32_w]
                                          rfl
                                        refine pure_ (i := 7) (N := some 123) (v := ?_) (a' := ?_) #[false, true, true, true, false, true, true, true, false, false, false] rfl rfl (any_of HT_.out (by kernel_rfl)) (fun _ _ _ h => h) (Or.inl ⟨by rfl, ?_⟩) ?_ ?_
                                        rotate_left
                                        · intro w'
                                          go_simp
                                          with_reducible rfl
                                        rotate_left
                                        · simp only [Act.put, List.setIfInBounds_toArray, List.set_cons_zero, List.set_cons_succ, i64_w, i32_w]
                                          rfl
                                        refine pure_ (i := 8) (N := some 124) (v := ?_) (a' := ?_) #[false, true, true, true, false, true, true, true, true, false, false] rfl rfl (any_of HT_.out (by kernel_rfl)) (fun _ _ _ h => h) (Or.inl ⟨by rfl, ?_⟩) ?_ ?_
                                        rotate_left
                                        · intro w'
                                          go_simp
                                          with_reducible rfl
                                        rotate_left
                                        · simp only [Act.put, List.setIfInBounds_toArray, List.set_cons_zero, List.set_cons_succ, i64_w, i32_w]
                                          rfl
                                        refine one_ (i := 0) (N := some 116) #[true, true, true, true, false, true, true, true, true, false, false] rfl rfl (one_of HT_.out (by kernel_rfl)) (by decide) (fun K hK => ?_)
                                        refine Kd.N_lit_step k46 _ 46 ?hg (N' := 116) ?hd (xs := ([] : List (S46))) (inner := []) (ok := (fun k_ => some k_ ≠ (.slice Ao31 x7_2.length co31 : Value).ownBlock ∧ k_ ≠ gb166)) (okp := (fun k_ => some k_ ≠ (.slice Ao31 x7_2.length co31 : Value).ownBlock ∧ k_ ≠ gb166)) ?hr ?hp (fun _ hk => hk) ((show ∀ k_, w71.heap.size ≤ k_ → (fun k_ => some k_ ≠ (.slice Ao31 x7_2.length co31 : Value).ownBlock ∧ k_ ≠ gb166) k_ from fun k_ hk => ⟨Kd.fresh' (Kd.N_lt (by (with_reducible repeat (first | apply Kd.N_alloc | apply Kd.N_drewN | apply Kd.N_drew)); exact HO_7.out)) k_ hk, Kd.freshB (g := gb166) (o := .cells #[.int .i64 t159, .int .i64 t160, .int .i64 t161, .int .i64 t162, .int .i64 t163, .int .i64 t164, .int .i64 t165] 24 (0, 0)) (by (with_reducible repeat (first | refine blk_drewN ?_ _ | refine blk_drew ?_ | refine blk_alloc ?_ _)); exact BK166.out) k_ hk⟩) _ (Nat.le_refl _)) (Below.refl _ _) (Nat.le_refl _) (by simp) ?_; (case hd => rfl); (case hg => rfl); (case hr => first | (go_simp; done) | (go_simp; rfl)); (case hp => exact (Reps.none _ _))
                                        intro v172 w74 ho75 hb hg_ hnew_
                                        clear hg_ hnew_
                                        (first | rw [← Ny171.out] at ho75 | (simp only [Int.reduceToNat] at ho75; rw [← Ny171.out] at ho75))
                                        have n0_ := Aside0.mk (Kd.N_elder' (by (with_reducible repeat (first | apply Kd.N_alloc | apply Kd.N_drewN | apply Kd.N_drew)); exact HO_7.out) (Kd.N_base ho75) hb)
                                        have n1_ := Aside0.mk (Kd.V_elder' (by (with_reducible repeat (first | apply Kd.V_alloc | apply Kd.V_drewN | apply Kd.V_drew)); exact HO178.out) (Kd.N_base ho75) hb)
                                        have n2_ := Aside0.mk (Kd.V_elder' (by (with_reducible repeat (first | apply Kd.V_alloc | apply Kd.V_drewN | apply Kd.V_drew)); exact HO186.out) (Kd.N_base ho75) hb)
                                        have n3_ := Aside0.mk (Kd.N_lower ho75 (below_size (by repeat (first | (with_reducible first | exact HB.out | apply below_alloc | apply pw_below_drewN | apply below_drew1 | refine below_set ?_ GE166.out) | exact HB.out))))
                                        have n4_ := Aside0.mk (blk_below (g := gb166) (o := .cells #[.int .i64 t159, .int .i64 t160, .int .i64 t161, .int .i64 t162, .int .i64 t163, .int .i64 t164, .int .i64 t165] 24 (0, 0)) (by (with_reducible repeat (first | refine blk_drewN ?_ _ | refine blk_drew ?_ | refine blk_alloc ?_ _)); exact BK166.out) hb)
                                        have n5_ := Aside0.mk (below_step (by repeat (first | (with_reducible first | exact HB.out | apply below_alloc | apply pw_below_drewN | apply below_drew1 | refine below_set ?_ GE166.out) | exact HB.out)) hb)
                                        clear HO_7
                                        clear HO178
                                        clear HO186
                                        clear BK166
                                        clear HB
                                        have HO_7 := n0_
                                        have HO178 := n1_
                                        have HO186 := n2_
                                        have HO173 := n3_
                                        have BK166 := n4_
                                        have HB := n5_
                                        clear n0_ n1_ n2_ n3_ n4_ n5_
                                        clear hb ho75
                                        refine hK.out _ _ trivial (fun hHeld => ?_)
                                        clear hK K
                                        refine norm_ (a' := ?_) ?_ ?_
                                        rotate_left
                                        · show Act.put _ (some 116) _ = _
                                          simp only [Act.put, List.setIfInBounds_toArray, List.set_cons_zero, List.set_cons_succ, i64_w, i32_w]
                                          rfl
                                        refine one_ (i := 4) (N := some 120) #[true, true, true, true, true, true, true, true, true, false, false] rfl rfl (one_of HT_.out (by kernel_rfl)) (by decide) (fun K hK => ?_)
                                        refine Kd.N_append_rows_step k46 (w0 := w) w.heap.size (by rfl) (.tmp 116) (.tmp 119) 22 46 (.agg #[(.int .i64 0), (.int .i64 0), (.int .i64 0), (.slice none 0 0), (.int .i64 0), (.int .i64 0)]) 64 rfl Try.underlying22 info46 rfl (by decide) (by omega) v172 y171 y174 _ _ _ (fun k_ => k_ ≠ gb166) (fun k_ => ((fun k_ => k_ ≠ gb166)) k_ ∧ some k_ ≠ (v172 : Value).ownBlock) rfl rfl ?aO ?aR (fun _ hk => hk) ?aF ?aB ?aS ?aL ?_
                                        (case aR => exact (by skip; exact Kd.V_F (Kd.V_mono (ok' := (fun k_ => ((fun k_ => k_ ≠ gb166)) k_ ∧ some k_ ≠ (v172 : Value).ownBlock)) (HO178.out) (fun k_ hk => ⟨hk.1, hk.2⟩))))
                                        (case aB => exact (by repeat (first | (with_reducible first | exact HB.out | apply below_alloc | apply pw_below_drewN | apply below_drew1 | refine below_set ?_ GE166.out) | exact HB.out)))
                                        (case aF => exact (fun k_ hk => Kd.freshB (g := gb166) (o := .cells #[.int .i64 t159, .int .i64 t160, .int .i64 t161, .int .i64 t162, .int .i64 t163, .int .i64 t164, .int .i64 t165] 24 (0, 0)) (by (with_reducible repeat (first | refine blk_drewN ?_ _ | refine blk_drew ?_ | refine blk_alloc ?_ _)); exact BK166.out) k_ hk))
                                        (case aO => exact (by (with_reducible repeat (first | apply Kd.N_alloc | apply Kd.N_drewN | apply Kd.N_drew)); exact Kd.N_mono HO173.out (fun _ hk => hk.2)))
                                        (case aS => exact (below_size (by repeat (first | (with_reducible first | exact HB.out | apply below_alloc | apply pw_below_drewN | apply below_drew1 | refine below_set ?_ GE166.out) | exact HB.out))))
                                        (case aL => have := LMc64.out; omega)
                                        intro v180 w76 ho hb hg hat
                                        rw [← Ny179.out] at ho
                                        have n0_ := Aside0.mk (Kd.N_afterv (ok := (fun k_ => k_ ≠ gb166)) (by (with_reducible repeat (first | apply Kd.N_alloc | apply Kd.N_drewN | apply Kd.N_drew)); exact HO_7.out) hg hat)
                                        have n1_ := Aside0.mk (blk_grown (g := gb166) (o := .cells #[.int .i64 t159, .int .i64 t160, .int .i64 t161, .int .i64 t162, .int .i64 t163, .int .i64 t164, .int .i64 t165] 24 (0, 0)) (by (with_reducible repeat (first | refine blk_drewN ?_ _ | refine blk_drew ?_ | refine blk_alloc ?_ _)); exact BK166.out) hg (Kd.N_ne HO173.out BK166.out (by decide)))
                                        have n2_ := Aside0.mk (Kd.V_afterv (ok := (fun k_ => k_ ≠ gb166)) (by (with_reducible repeat (first | apply Kd.V_alloc | apply Kd.V_drewN | apply Kd.V_drew)); exact HO178.out) hg hat)
                                        have n3_ := Aside0.mk (Kd.V_afterv (ok := (fun k_ => k_ ≠ gb166)) (by (with_reducible repeat (first | apply Kd.V_alloc | apply Kd.V_drewN | apply Kd.V_drew)); exact HO186.out) hg hat)
                                        have n4_ := Aside0.mk (hb)
                                        have n5_ := Aside0.mk (ho)
                                        clear HO_7
                                        clear BK166
                                        clear HO178
                                        clear HO186
                                        clear HB
                                        clear HO173
                                        have HO_7 := n0_
                                        have BK166 := n1_
                                        have HO178 := n2_
                                        have HO186 := n3_
                                        have HB := n4_
                                        have HO181 := n5_
                                        clear n0_ n1_ n2_ n3_ n4_ n5_
                                        clear ho hb hg hat
                                        refine hK.out _ _ trivial (fun hHeld => ?_)
                                        clear hK K
                                        refine norm_ (a' := ?_) ?_ ?_
                                        rotate_left
                                        · show Act.put _ (some 120) _ = _
                                          simp only [Act.put, List.setIfInBounds_toArray, List.set_cons_zero, List.set_cons_succ, i64_w, i32_w]
                                          rfl
                                        refine one_ (i := 9) (N := some 125) #[true, true, true, true, true, true, true, true, true, true, false] rfl rfl (one_of HT_.out (by kernel_rfl)) (by decide) (fun K hK => ?_)
                                        refine Kd.N_append_rows_step k46 (w0 := w) w.heap.size (by rfl) (.tmp 120) (.tmp 124) 22 46 (.agg #[(.int .i64 0), (.int .i64 0), (.int .i64 0), (.slice none 0 0), (.int .i64 0), (.int .i64 0)]) 64 rfl Try.underlying22 info46 rfl (by decide) (by omega) v180 y179 y182 _ _ _ (fun k_ => k_ ≠ gb166) (fun k_ => ((fun k_ => k_ ≠ gb166)) k_ ∧ some k_ ≠ (v180 : Value).ownBlock) rfl rfl ?aO ?aR (fun _ hk => hk) ?aF ?aB ?aS ?aL ?_
                                        (case aR => exact (by skip; exact Kd.V_F (Kd.V_mono (ok' := (fun k_ => ((fun k_ => k_ ≠ gb166)) k_ ∧ some k_ ≠ (v180 : Value).ownBlock)) (HO186.out) (fun k_ hk => ⟨hk.1, hk.2⟩))))
                                        (case aB => exact (by repeat (first | (with_reducible first | exact HB.out | apply below_alloc | apply pw_below_drewN | apply below_drew1 | refine below_set ?_ GE166.out) | exact HB.out)))
                                        (case aF => exact (fun k_ hk => Kd.freshB (g := gb166) (o := .cells #[.int .i64 t159, .int .i64 t160, .int .i64 t161, .int .i64 t162, .int .i64 t163, .int .i64 t164, .int .i64 t165] 24 (0, 0)) (by (with_reducible repeat (first | refine blk_drewN ?_ _ | refine blk_drew ?_ | refine blk_alloc ?_ _)); exact BK166.out) k_ hk))
                                        (case aO => exact (by (with_reducible repeat (first | apply Kd.N_alloc | apply Kd.N_drewN | apply Kd.N_drew)); exact HO181.out))
                                        (case aS => exact (below_size (by repeat (first | (with_reducible first | exact HB.out | apply below_alloc | apply pw_below_drewN | apply below_drew1 | refine below_set ?_ GE166.out) | exact HB.out))))
                                        (case aL => have := LMc68.out; omega)
                                        intro v188 w77 ho hb hg hat
                                        rw [← Ny187.out] at ho
                                        have n0_ := Aside0.mk (Kd.N_afterv (ok := (fun k_ => k_ ≠ gb166)) (by (with_reducible repeat (first | apply Kd.N_alloc | apply Kd.N_drewN | apply Kd.N_drew)); exact HO_7.out) hg hat)
                                        have n1_ := Aside0.mk (blk_grown (g := gb166) (o := .cells #[.int .i64 t159, .int .i64 t160, .int .i64 t161, .int .i64 t162, .int .i64 t163, .int .i64 t164, .int .i64 t165] 24 (0, 0)) (by (with_reducible repeat (first | refine blk_drewN ?_ _ | refine blk_drew ?_ | refine blk_alloc ?_ _)); exact BK166.out) hg (Kd.N_ne HO181.out BK166.out (by decide)))
                                        have n2_ := Aside0.mk (Kd.V_afterv (ok := (fun k_ => k_ ≠ gb166)) (by (with_reducible repeat (first | apply Kd.V_alloc | apply Kd.V_drewN | apply Kd.V_drew)); exact HO178.out) hg hat)
                                        have n3_ := Aside0.mk (Kd.V_afterv (ok := (fun k_ => k_ ≠ gb166)) (by (with_reducible repeat (first | apply Kd.V_alloc | apply Kd.V_drewN | apply Kd.V_drew)); exact HO186.out) hg hat)
                                        have n4_ := Aside0.mk (hb)
                                        have n5_ := Aside0.mk (ho)
                                        clear HO_7
                                        clear BK166
                                        clear HO178
                                        clear HO186
                                        clear HB
                                        clear HO181
                                        have HO_7 := n0_
                                        have BK166 := n1_
                                        have HO178 := n2_
                                        have HO186 := n3_
                                        have HB := n4_
                                        have HO189 := n5_
                                        clear n0_ n1_ n2_ n3_ n4_ n5_
                                        clear ho hb hg hat
                                        refine hK.out _ _ trivial (fun hHeld => ?_)
                                        clear hK K
                                        refine norm_ (a' := ?_) ?_ ?_
                                        rotate_left
                                        · show Act.put _ (some 125) _ = _
                                          simp only [Act.put, List.setIfInBounds_toArray, List.set_cons_zero, List.set_cons_succ, i64_w, i32_w]
                                          rfl
                                        refine pure_ (i := 10) (N := some 13) (v := ?_) (a' := ?_) #[true, true, true, true, true, true, true, true, true, true, true] rfl rfl (any_of HT_.out (by kernel_rfl)) (fun _ _ _ h => h) (Or.inl ⟨by rfl, ?_⟩) ?_ ?_
                                        rotate_left
                                        · intro w'
                                          go_simp
                                          with_reducible rfl
                                        rotate_left
                                        · simp only [Act.put, List.setIfInBounds_toArray, List.set_cons_zero, List.set_cons_succ, i64_w, i32_w]
                                          rfl
                                        refine done_ (done_of HT_.out (by kernel_rfl)) ?_
                                        obtain ⟨Ao78, co78, eo78⟩ := Kd.N_slice HO189.out
                                        subst eo78
                                        try go_wp2_with (first | ((with_reducible refine gate_callee (f := 18) rfl ?_); refine goesL_ (some 128) rfl rfl Try.func18 (by kernel_rfl) rfl #[.slice Ao78 y187.length co78, .int .i64 x8_2] rfl (by (try simp only [List.map_toArray, List.map_cons, List.map_nil]); first | done | rfl | (simp only [List.length_drop, List.length_take]; rfl)) ?_; (with_reducible refine (event_Covers.calls kj56 _ _ y187 x8_2 true _ ?side1 ?side2 A69.out).mono ?_); (case side1 => repeat (first | exact (Kd.N_reads' HO189.out).2.2 | (with_reducible refine Kd.C_alloc ?_ _) | (with_reducible refine Kd.C_drewN ?_ _) | (with_reducible refine Kd.C_drew ?_))); (case side2 => exact (Kd.N_reads' HO189.out).2.1); rintro e w79 ⟨rfl, hb⟩; refine ⟨_, rfl, ?_⟩; have n0_ := Aside0.mk (Kd.N_below (by (with_reducible repeat (first | apply Kd.N_alloc | apply Kd.N_drewN | apply Kd.N_drew)); exact HO_7.out) hb); have n1_ := Aside0.mk (Kd.V_below (by (with_reducible repeat (first | apply Kd.V_alloc | apply Kd.V_drewN | apply Kd.V_drew)); exact HO178.out) hb); have n2_ := Aside0.mk (Kd.V_below (by (with_reducible repeat (first | apply Kd.V_alloc | apply Kd.V_drewN | apply Kd.V_drew)); exact HO186.out) hb); have n3_ := Aside0.mk (Kd.N_below (by (with_reducible repeat (first | apply Kd.N_alloc | apply Kd.N_drewN | apply Kd.N_drew)); exact HO189.out) hb); have n4_ := Aside0.mk (blk_below (g := gb166) (o := .cells #[.int .i64 t159, .int .i64 t160, .int .i64 t161, .int .i64 t162, .int .i64 t163, .int .i64 t164, .int .i64 t165] 24 (0, 0)) (by (with_reducible repeat (first | refine blk_drewN ?_ _ | refine blk_drew ?_ | refine blk_alloc ?_ _)); exact BK166.out) hb); have n5_ := Aside0.mk (below_step (by repeat (first | (with_reducible first | exact HB.out | apply below_alloc | apply pw_below_drewN | apply below_drew1 | refine below_set ?_ GE166.out) | exact HB.out)) hb); clear HO_7; clear HO178; clear HO186; clear HO189; clear BK166; clear HB; have HO_7 := n0_; have HO178 := n1_; have HO186 := n2_; have HO189 := n3_; have BK166 := n4_; have HB := n5_; clear n0_ n1_ n2_ n3_ n4_ n5_; (try clear hb); (try clear hb2); (try clear hk); (try clear hi)))
                                        go_ret
                                        exact ⟨by first | rfl | (simp [errW_none, errW_some] <;> rfl) | (simp only [← hji65]; first | rfl | (simp [errW_none, errW_some] <;> rfl)) | (simp [*, errW_none, errW_some] <;> rfl), by repeat (first | (with_reducible first | exact HB.out | apply below_alloc | apply pw_below_drewN | apply below_drew1 | refine below_set ?_ GE166.out) | exact HB.out)⟩
                                      · replace c70 := Bool.eq_false_iff.mpr c70
                                        subst c70
                                        have H1 : ((event_Equal.f y187 x7_2).bind fun t191 => (if t191 = true then (some false) else ((forebaylaw21_awake.f kj56).bind fun t192 => (some t192)))) = some r := by rw [if_neg (show ¬ (false = true) by decide)] at H; exact H
                                        clear H
                                        have H := H1
                                        clear H1
                                        replace H := Option.bind_eq_some_iff.mp H
                                        obtain ⟨t191, A800, H⟩ := H
                                        replace H : (if t191 = true then (some false) else ((forebaylaw21_awake.f kj56).bind fun t192 => (some t192))) = some r := H
                                        have A80 := Aside0.mk A800
                                        clear A800
                                        by_cases c81 : t191 = true
                                        · subst c81
                                          have H1 : (some false) = some r := by rw [if_pos rfl] at H; exact H
                                          clear H
                                          have H := H1
                                          clear H1
                                          obtain rfl := Option.some.inj H
                                          try go_wp2
                                          have n0_ := Aside0.mk (Kd.N_drew HO_7.out)
                                          have n1_ := Aside0.mk (blk_drew BK166.out)
                                          have n2_ := Aside0.mk (below_drew1 HB.out)
                                          clear HO_7
                                          clear BK166
                                          clear HB
                                          have HO_7 := n0_
                                          have BK166 := n1_
                                          have HB := n2_
                                          clear n0_ n1_ n2_
                                          have q83 : (a2 : Int) ≤ ((x7_2.length : Int) : Int) := of_decide_eq_true (by first | (with_reducible assumption) | assumption)
                                          obtain ⟨i083, hi083, _, hsz83, _⟩ := info_parts info46
                                          have hroom83 : x7_2.length ≤ co31 := (Kd.N_reads' HO_7.out).2.1
                                          have hC83 : Kd.F k46 _ _ Ao31 x7_2.length x7_2 := (Kd.V_at (base := w.heap.size) (Kd.N_V HO_7.out)).2.2
                                          have hcut83 := cut_to (P := Try.prog) 22 46 .i64 Try.underlying22 hi083 Ao31 x7_2.length co31 a2 (of_decide_eq_true (by first | (with_reducible assumption) | assumption)) q83 hroom83
                                          have hr83 := Kd.F_take (m := (a2 : Int).toNat) hC83 (by omega)
                                          have hy83 : y174.length = (a2 : Int).toNat := (by rw [Ny174.out, List.length_take]; omega)
                                          rw [← Ny174.out] at hr83
                                          rw [← hy83] at hcut83
                                          have HO178 := Aside0.mk (show Kd.V k46 46 _ w.heap.size _ (.slice Ao31 y174.length co31) y174 from Kd.V_mk (by omega) hr83)
                                          have HC178 := Aside0.mk (show y174.length ≤ co31 from by omega)
                                          clear hr83 hC83 hroom83 hi083 hsz83
                                          have KY83 := Aside0.mk hy83
                                          clear hy83
                                          replace q83 := eq_true q83
                                          have q84 : ((ji65) : Int) ≤ ((x7_2.length : Int) : Int) := of_decide_eq_true (by first | (with_reducible assumption) | assumption)
                                          obtain ⟨i084, hi084, _, hsz84, _⟩ := info_parts info46
                                          have hroom84 : x7_2.length ≤ co31 := (Kd.N_reads' HO_7.out).2.1
                                          have hC84 : Kd.F k46 _ _ Ao31 x7_2.length x7_2 := (Kd.V_at (base := w.heap.size) (Kd.N_V HO_7.out)).2.2
                                          have q084 : (0 : Int) ≤ ((ji65) : Int) := of_decide_eq_true (by first | (with_reducible assumption) | assumption)
                                          have hcut84 := cut_from (P := Try.prog) 22 46 .i64 Try.underlying22 hi084 6 hsz84 Ao31 x7_2.length co31 (ji65) q084 q84
                                          have hr84 := Kd.F_cut (m := ((ji65) : Int).toNat) (c := co31) hC84 (by omega) hroom84
                                          obtain ⟨A84, hA84⟩ : ∃ A1, A1 = (if co31 = ((ji65) : Int).toNat then Ao31 else (Ao31 : Option Addr).map (·.add (((ji65) : Int).toNat * 6))) := ⟨_, rfl⟩
                                          obtain ⟨c84, hc84⟩ : ∃ c1, c1 = co31 - ((ji65) : Int).toNat := ⟨_, rfl⟩
                                          have hy84 : y182.length = x7_2.length - ((ji65) : Int).toNat := (by rw [Ny182.out, List.length_drop] <;> omega)
                                          rw [show (x7_2).drop ((ji65) : Int).toNat = y182 from Ny182.out.symm] at hr84
                                          replace hr84 : Kd.F k46 _ _ A84 y182.length y182 := (by rw [hA84]; exact hr84)
                                          rw [← hy84, ← hA84, ← hc84] at hcut84
                                          have HO186 := Aside0.mk (show Kd.V k46 46 _ w.heap.size _ (.slice A84 y182.length c84) y182 from Kd.V_mk (by rw [hy84, hc84]; exact Nat.sub_le_sub_right hroom84 _) hr84)
                                          have HC186 := Aside0.mk (show y182.length ≤ c84 from by rw [hy84, hc84]; exact Nat.sub_le_sub_right hroom84 _)
                                          clear hr84 hC84 hroom84 hi084 hsz84 hc84
                                          have KY84 := Aside0.mk hy84
                                          have KA84 := Aside0.mk hA84
                                          clear hy84 hA84
                                          replace q84 := eq_true q84
                                          refine start_ (n := 11) (S := fun w' => True) (ds := []) #[false, false, false, false, false, false, false, false, false, false, false] (by kernel_rfl) rfl rfl trivial (fun hHeld => ?_); refine with_tabW forebaylaw21_EventCovers.tab19 forebaylaw21_EventCovers.bits19 (fun HT_ HW_ => ?_)
                                          generalize wc.drew = w82 at HO_7 BK166 HB HO178 HO186 hHeld ⊢
                                          refine pure_ (i := 1) (N := some 117) (v := ?_) (a' := ?_) #[false, true, false, false, false, false, false, false, false, false, false] rfl rfl (any_of HT_.out (by kernel_rfl)) (fun _ _ _ h => h) (Or.inl ⟨by rfl, ?_⟩) ?_ ?_
                                          rotate_left
                                          · intro w'
                                            go_simp
                                            with_reducible rfl
                                          rotate_left
                                          · simp only [Act.put, List.setIfInBounds_toArray, List.set_cons_zero, List.set_cons_succ, i64_w, i32_w]
                                            rfl
                                          refine pure_ (i := 2) (N := some 118) (v := ?_) (a' := ?_) #[false, true, true, false, false, false, false, false, false, false, false] rfl rfl (any_of HT_.out (by kernel_rfl)) (fun _ _ _ h => h) (Or.inl ⟨by rfl, ?_⟩) ?_ ?_
                                          rotate_left
                                          · intro w'
                                            go_simp
                                            with_reducible rfl
                                          rotate_left
                                          · simp only [Act.put, List.setIfInBounds_toArray, List.set_cons_zero, List.set_cons_succ, i64_w, i32_w]
                                            rfl
                                          refine pure_ (i := 3) (N := some 119) (v := ?_) (a' := ?_) #[false, true, true, true, false, false, false, false, false, false, false] rfl rfl (any_of HT_.out (by kernel_rfl)) (fun _ _ _ h => h) (Or.inl ⟨by rfl, ?_⟩) ?_ ?_
                                          rotate_left
                                          · intro w'
                                            go_simp
                                            with_reducible rfl
                                          rotate_left
                                          · simp only [Act.put, List.setIfInBounds_toArray, List.set_cons_zero, List.set_cons_succ, i64_w, i32_w]
                                            rfl
                                          refine pure_ (i := 5) (N := some 121) (v := ?_) (a' := ?_) #[false, true, true, true, false, true, false, false, false, false, false] rfl rfl (any_of HT_.out (by kernel_rfl)) (fun _ _ _ h => h) (Or.inl ⟨by rfl, ?_⟩) ?_ ?_
                                          rotate_left
                                          · intro w'
                                            go_simp
                                            with_reducible rfl
                                          rotate_left
                                          · simp only [Act.put, List.setIfInBounds_toArray, List.set_cons_zero, List.set_cons_succ, i64_w, i32_w]
                                            rfl
                                          refine pure_ (i := 6) (N := some 122) (v := ?_) (a' := ?_) #[false, true, true, true, false, true, true, false, false, false, false] rfl rfl (any_of HT_.out (by kernel_rfl)) (fun _ _ _ h => h) (Or.inl ⟨by rfl, ?_⟩) ?_ ?_
                                          rotate_left
                                          · intro w'
                                            go_simp
                                            with_reducible rfl
                                          rotate_left
                                          · simp only [Act.put, List.setIfInBounds_toArray, List.set_cons_zero, List.set_cons_succ, i64_w, i32_w]
                                            rfl
                                          refine pure_ (i := 7) (N := some 123) (v := ?_) (a' := ?_) #[false, true, true, true, false, true, true, true, false, false, false] rfl rfl (any_of HT_.out (by kernel_rfl)) (fun _ _ _ h => h) (Or.inl ⟨by rfl, ?_⟩) ?_ ?_
                                          rotate_left
                                          · intro w'
                                            go_simp
                                            with_reducible rfl
                                          rotate_left
                                          · simp only [Act.put, List.setIfInBounds_toArray, List.set_cons_zero, List.set_cons_succ, i64_w, i32_w]
                                            rfl
                                          refine pure_ (i := 8) (N := some 124) (v := ?_) (a' := ?_) #[false, true, true, true, false, true, true, true, true, false, false] rfl rfl (any_of HT_.out (by kernel_rfl)) (fun _ _ _ h => h) (Or.inl ⟨by rfl, ?_⟩) ?_ ?_
                                          rotate_left
                                          · intro w'
                                            go_simp
                                            with_reducible rfl
                                          rotate_left
                                          · simp only [Act.put, List.setIfInBounds_toArray, List.set_cons_zero, List.set_cons_succ, i64_w, i32_w]
                                            rfl
                                          refine one_ (i := 0) (N := some 116) #[true, true, true, true, false, true, true, true, true, false, false] rfl rfl (one_of HT_.out (by kernel_rfl)) (by decide) (fun K hK => ?_)
                                          refine Kd.N_lit_step k46 _ 46 ?hg (N' := 116) ?hd (xs := ([] : List (S46))) (inner := []) (ok := (fun k_ => some k_ ≠ (.slice Ao31 x7_2.length co31 : Value).ownBlock ∧ k_ ≠ gb166)) (okp := (fun k_ => some k_ ≠ (.slice Ao31 x7_2.length co31 : Value).ownBlock ∧ k_ ≠ gb166)) ?hr ?hp (fun _ hk => hk) ((show ∀ k_, w82.heap.size ≤ k_ → (fun k_ => some k_ ≠ (.slice Ao31 x7_2.length co31 : Value).ownBlock ∧ k_ ≠ gb166) k_ from fun k_ hk => ⟨Kd.fresh' (Kd.N_lt (by (with_reducible repeat (first | apply Kd.N_alloc | apply Kd.N_drewN | apply Kd.N_drew)); exact HO_7.out)) k_ hk, Kd.freshB (g := gb166) (o := .cells #[.int .i64 t159, .int .i64 t160, .int .i64 t161, .int .i64 t162, .int .i64 t163, .int .i64 t164, .int .i64 t165] 24 (0, 0)) (by (with_reducible repeat (first | refine blk_drewN ?_ _ | refine blk_drew ?_ | refine blk_alloc ?_ _)); exact BK166.out) k_ hk⟩) _ (Nat.le_refl _)) (Below.refl _ _) (Nat.le_refl _) (by simp) ?_; (case hd => rfl); (case hg => rfl); (case hr => first | (go_simp; done) | (go_simp; rfl)); (case hp => exact (Reps.none _ _))
                                          intro v172 w85 ho86 hb hg_ hnew_
                                          clear hg_ hnew_
                                          (first | rw [← Ny171.out] at ho86 | (simp only [Int.reduceToNat] at ho86; rw [← Ny171.out] at ho86))
                                          have n0_ := Aside0.mk (Kd.N_elder' (by (with_reducible repeat (first | apply Kd.N_alloc | apply Kd.N_drewN | apply Kd.N_drew)); exact HO_7.out) (Kd.N_base ho86) hb)
                                          have n1_ := Aside0.mk (Kd.V_elder' (by (with_reducible repeat (first | apply Kd.V_alloc | apply Kd.V_drewN | apply Kd.V_drew)); exact HO178.out) (Kd.N_base ho86) hb)
                                          have n2_ := Aside0.mk (Kd.V_elder' (by (with_reducible repeat (first | apply Kd.V_alloc | apply Kd.V_drewN | apply Kd.V_drew)); exact HO186.out) (Kd.N_base ho86) hb)
                                          have n3_ := Aside0.mk (Kd.N_lower ho86 (below_size (by repeat (first | (with_reducible first | exact HB.out | apply below_alloc | apply pw_below_drewN | apply below_drew1 | refine below_set ?_ GE166.out) | exact HB.out))))
                                          have n4_ := Aside0.mk (blk_below (g := gb166) (o := .cells #[.int .i64 t159, .int .i64 t160, .int .i64 t161, .int .i64 t162, .int .i64 t163, .int .i64 t164, .int .i64 t165] 24 (0, 0)) (by (with_reducible repeat (first | refine blk_drewN ?_ _ | refine blk_drew ?_ | refine blk_alloc ?_ _)); exact BK166.out) hb)
                                          have n5_ := Aside0.mk (below_step (by repeat (first | (with_reducible first | exact HB.out | apply below_alloc | apply pw_below_drewN | apply below_drew1 | refine below_set ?_ GE166.out) | exact HB.out)) hb)
                                          clear HO_7
                                          clear HO178
                                          clear HO186
                                          clear BK166
                                          clear HB
                                          have HO_7 := n0_
                                          have HO178 := n1_
                                          have HO186 := n2_
                                          have HO173 := n3_
                                          have BK166 := n4_
                                          have HB := n5_
                                          clear n0_ n1_ n2_ n3_ n4_ n5_
                                          clear hb ho86
                                          refine hK.out _ _ trivial (fun hHeld => ?_)
                                          clear hK K
                                          refine norm_ (a' := ?_) ?_ ?_
                                          rotate_left
                                          · show Act.put _ (some 116) _ = _
                                            simp only [Act.put, List.setIfInBounds_toArray, List.set_cons_zero, List.set_cons_succ, i64_w, i32_w]
                                            rfl
                                          refine one_ (i := 4) (N := some 120) #[true, true, true, true, true, true, true, true, true, false, false] rfl rfl (one_of HT_.out (by kernel_rfl)) (by decide) (fun K hK => ?_)
                                          refine Kd.N_append_rows_step k46 (w0 := w) w.heap.size (by rfl) (.tmp 116) (.tmp 119) 22 46 (.agg #[(.int .i64 0), (.int .i64 0), (.int .i64 0), (.slice none 0 0), (.int .i64 0), (.int .i64 0)]) 64 rfl Try.underlying22 info46 rfl (by decide) (by omega) v172 y171 y174 _ _ _ (fun k_ => k_ ≠ gb166) (fun k_ => ((fun k_ => k_ ≠ gb166)) k_ ∧ some k_ ≠ (v172 : Value).ownBlock) rfl rfl ?aO ?aR (fun _ hk => hk) ?aF ?aB ?aS ?aL ?_
                                          (case aR => exact (by skip; exact Kd.V_F (Kd.V_mono (ok' := (fun k_ => ((fun k_ => k_ ≠ gb166)) k_ ∧ some k_ ≠ (v172 : Value).ownBlock)) (HO178.out) (fun k_ hk => ⟨hk.1, hk.2⟩))))
                                          (case aB => exact (by repeat (first | (with_reducible first | exact HB.out | apply below_alloc | apply pw_below_drewN | apply below_drew1 | refine below_set ?_ GE166.out) | exact HB.out)))
                                          (case aF => exact (fun k_ hk => Kd.freshB (g := gb166) (o := .cells #[.int .i64 t159, .int .i64 t160, .int .i64 t161, .int .i64 t162, .int .i64 t163, .int .i64 t164, .int .i64 t165] 24 (0, 0)) (by (with_reducible repeat (first | refine blk_drewN ?_ _ | refine blk_drew ?_ | refine blk_alloc ?_ _)); exact BK166.out) k_ hk))
                                          (case aO => exact (by (with_reducible repeat (first | apply Kd.N_alloc | apply Kd.N_drewN | apply Kd.N_drew)); exact Kd.N_mono HO173.out (fun _ hk => hk.2)))
                                          (case aS => exact (below_size (by repeat (first | (with_reducible first | exact HB.out | apply below_alloc | apply pw_below_drewN | apply below_drew1 | refine below_set ?_ GE166.out) | exact HB.out))))
                                          (case aL => have := LMc64.out; omega)
                                          intro v180 w87 ho hb hg hat
                                          rw [← Ny179.out] at ho
                                          have n0_ := Aside0.mk (Kd.N_afterv (ok := (fun k_ => k_ ≠ gb166)) (by (with_reducible repeat (first | apply Kd.N_alloc | apply Kd.N_drewN | apply Kd.N_drew)); exact HO_7.out) hg hat)
                                          have n1_ := Aside0.mk (blk_grown (g := gb166) (o := .cells #[.int .i64 t159, .int .i64 t160, .int .i64 t161, .int .i64 t162, .int .i64 t163, .int .i64 t164, .int .i64 t165] 24 (0, 0)) (by (with_reducible repeat (first | refine blk_drewN ?_ _ | refine blk_drew ?_ | refine blk_alloc ?_ _)); exact BK166.out) hg (Kd.N_ne HO173.out BK166.out (by decide)))
                                          have n2_ := Aside0.mk (Kd.V_afterv (ok := (fun k_ => k_ ≠ gb166)) (by (with_reducible repeat (first | apply Kd.V_alloc | apply Kd.V_drewN | apply Kd.V_drew)); exact HO178.out) hg hat)
                                          have n3_ := Aside0.mk (Kd.V_afterv (ok := (fun k_ => k_ ≠ gb166)) (by (with_reducible repeat (first | apply Kd.V_alloc | apply Kd.V_drewN | apply Kd.V_drew)); exact HO186.out) hg hat)
                                          have n4_ := Aside0.mk (hb)
                                          have n5_ := Aside0.mk (ho)
                                          clear HO_7
                                          clear BK166
                                          clear HO178
                                          clear HO186
                                          clear HB
                                          clear HO173
                                          have HO_7 := n0_
                                          have BK166 := n1_
                                          have HO178 := n2_
                                          have HO186 := n3_
                                          have HB := n4_
                                          have HO181 := n5_
                                          clear n0_ n1_ n2_ n3_ n4_ n5_
                                          clear ho hb hg hat
                                          refine hK.out _ _ trivial (fun hHeld => ?_)
                                          clear hK K
                                          refine norm_ (a' := ?_) ?_ ?_
                                          rotate_left
                                          · show Act.put _ (some 120) _ = _
                                            simp only [Act.put, List.setIfInBounds_toArray, List.set_cons_zero, List.set_cons_succ, i64_w, i32_w]
                                            rfl
                                          refine one_ (i := 9) (N := some 125) #[true, true, true, true, true, true, true, true, true, true, false] rfl rfl (one_of HT_.out (by kernel_rfl)) (by decide) (fun K hK => ?_)
                                          refine Kd.N_append_rows_step k46 (w0 := w) w.heap.size (by rfl) (.tmp 120) (.tmp 124) 22 46 (.agg #[(.int .i64 0), (.int .i64 0), (.int .i64 0), (.slice none 0 0), (.int .i64 0), (.int .i64 0)]) 64 rfl Try.underlying22 info46 rfl (by decide) (by omega) v180 y179 y182 _ _ _ (fun k_ => k_ ≠ gb166) (fun k_ => ((fun k_ => k_ ≠ gb166)) k_ ∧ some k_ ≠ (v180 : Value).ownBlock) rfl rfl ?aO ?aR (fun _ hk => hk) ?aF ?aB ?aS ?aL ?_
                                          (case aR => exact (by skip; exact Kd.V_F (Kd.V_mono (ok' := (fun k_ => ((fun k_ => k_ ≠ gb166)) k_ ∧ some k_ ≠ (v180 : Value).ownBlock)) (HO186.out) (fun k_ hk => ⟨hk.1, hk.2⟩))))
                                          (case aB => exact (by repeat (first | (with_reducible first | exact HB.out | apply below_alloc | apply pw_below_drewN | apply below_drew1 | refine below_set ?_ GE166.out) | exact HB.out)))
                                          (case aF => exact (fun k_ hk => Kd.freshB (g := gb166) (o := .cells #[.int .i64 t159, .int .i64 t160, .int .i64 t161, .int .i64 t162, .int .i64 t163, .int .i64 t164, .int .i64 t165] 24 (0, 0)) (by (with_reducible repeat (first | refine blk_drewN ?_ _ | refine blk_drew ?_ | refine blk_alloc ?_ _)); exact BK166.out) k_ hk))
                                          (case aO => exact (by (with_reducible repeat (first | apply Kd.N_alloc | apply Kd.N_drewN | apply Kd.N_drew)); exact HO181.out))
                                          (case aS => exact (below_size (by repeat (first | (with_reducible first | exact HB.out | apply below_alloc | apply pw_below_drewN | apply below_drew1 | refine below_set ?_ GE166.out) | exact HB.out))))
                                          (case aL => have := LMc68.out; omega)
                                          intro v188 w88 ho hb hg hat
                                          rw [← Ny187.out] at ho
                                          have n0_ := Aside0.mk (Kd.N_afterv (ok := (fun k_ => k_ ≠ gb166)) (by (with_reducible repeat (first | apply Kd.N_alloc | apply Kd.N_drewN | apply Kd.N_drew)); exact HO_7.out) hg hat)
                                          have n1_ := Aside0.mk (blk_grown (g := gb166) (o := .cells #[.int .i64 t159, .int .i64 t160, .int .i64 t161, .int .i64 t162, .int .i64 t163, .int .i64 t164, .int .i64 t165] 24 (0, 0)) (by (with_reducible repeat (first | refine blk_drewN ?_ _ | refine blk_drew ?_ | refine blk_alloc ?_ _)); exact BK166.out) hg (Kd.N_ne HO181.out BK166.out (by decide)))
                                          have n2_ := Aside0.mk (Kd.V_afterv (ok := (fun k_ => k_ ≠ gb166)) (by (with_reducible repeat (first | apply Kd.V_alloc | apply Kd.V_drewN | apply Kd.V_drew)); exact HO178.out) hg hat)
                                          have n3_ := Aside0.mk (Kd.V_afterv (ok := (fun k_ => k_ ≠ gb166)) (by (with_reducible repeat (first | apply Kd.V_alloc | apply Kd.V_drewN | apply Kd.V_drew)); exact HO186.out) hg hat)
                                          have n4_ := Aside0.mk (hb)
                                          have n5_ := Aside0.mk (ho)
                                          clear HO_7
                                          clear BK166
                                          clear HO178
                                          clear HO186
                                          clear HB
                                          clear HO181
                                          have HO_7 := n0_
                                          have BK166 := n1_
                                          have HO178 := n2_
                                          have HO186 := n3_
                                          have HB := n4_
                                          have HO189 := n5_
                                          clear n0_ n1_ n2_ n3_ n4_ n5_
                                          clear ho hb hg hat
                                          refine hK.out _ _ trivial (fun hHeld => ?_)
                                          clear hK K
                                          refine norm_ (a' := ?_) ?_ ?_
                                          rotate_left
                                          · show Act.put _ (some 125) _ = _
                                            simp only [Act.put, List.setIfInBounds_toArray, List.set_cons_zero, List.set_cons_succ, i64_w, i32_w]
                                            rfl
                                          refine pure_ (i := 10) (N := some 13) (v := ?_) (a' := ?_) #[true, true, true, true, true, true, true, true, true, true, true] rfl rfl (any_of HT_.out (by kernel_rfl)) (fun _ _ _ h => h) (Or.inl ⟨by rfl, ?_⟩) ?_ ?_
                                          rotate_left
                                          · intro w'
                                            go_simp
                                            with_reducible rfl
                                          rotate_left
                                          · simp only [Act.put, List.setIfInBounds_toArray, List.set_cons_zero, List.set_cons_succ, i64_w, i32_w]
                                            rfl
                                          refine done_ (done_of HT_.out (by kernel_rfl)) ?_
                                          obtain ⟨Ao89, co89, eo89⟩ := Kd.N_slice HO189.out
                                          subst eo89
                                          try go_wp2_with (first | ((with_reducible refine gate_callee (f := 18) rfl ?_); refine goesL_ (some 128) rfl rfl Try.func18 (by kernel_rfl) rfl #[.slice Ao89 y187.length co89, .int .i64 x8_2] rfl (by (try simp only [List.map_toArray, List.map_cons, List.map_nil]); first | done | rfl | (simp only [List.length_drop, List.length_take]; rfl)) ?_; (with_reducible refine (event_Covers.calls kj56 _ _ y187 x8_2 false _ ?side1 ?side2 A69.out).mono ?_); (case side1 => repeat (first | exact (Kd.N_reads' HO189.out).2.2 | (with_reducible refine Kd.C_alloc ?_ _) | (with_reducible refine Kd.C_drewN ?_ _) | (with_reducible refine Kd.C_drew ?_))); (case side2 => exact (Kd.N_reads' HO189.out).2.1); rintro e w90 ⟨rfl, hb⟩; refine ⟨_, rfl, ?_⟩; have n0_ := Aside0.mk (Kd.N_below (by (with_reducible repeat (first | apply Kd.N_alloc | apply Kd.N_drewN | apply Kd.N_drew)); exact HO_7.out) hb); have n1_ := Aside0.mk (Kd.V_below (by (with_reducible repeat (first | apply Kd.V_alloc | apply Kd.V_drewN | apply Kd.V_drew)); exact HO178.out) hb); have n2_ := Aside0.mk (Kd.V_below (by (with_reducible repeat (first | apply Kd.V_alloc | apply Kd.V_drewN | apply Kd.V_drew)); exact HO186.out) hb); have n3_ := Aside0.mk (Kd.N_below (by (with_reducible repeat (first | apply Kd.N_alloc | apply Kd.N_drewN | apply Kd.N_drew)); exact HO189.out) hb); have n4_ := Aside0.mk (blk_below (g := gb166) (o := .cells #[.int .i64 t159, .int .i64 t160, .int .i64 t161, .int .i64 t162, .int .i64 t163, .int .i64 t164, .int .i64 t165] 24 (0, 0)) (by (with_reducible repeat (first | refine blk_drewN ?_ _ | refine blk_drew ?_ | refine blk_alloc ?_ _)); exact BK166.out) hb); have n5_ := Aside0.mk (below_step (by repeat (first | (with_reducible first | exact HB.out | apply below_alloc | apply pw_below_drewN | apply below_drew1 | refine below_set ?_ GE166.out) | exact HB.out)) hb); clear HO_7; clear HO178; clear HO186; clear HO189; clear BK166; clear HB; have HO_7 := n0_; have HO178 := n1_; have HO186 := n2_; have HO189 := n3_; have BK166 := n4_; have HB := n5_; clear n0_ n1_ n2_ n3_ n4_ n5_; (try clear hb); (try clear hb2); (try clear hk); (try clear hi)) | (go_at_call 19; (with_reducible refine (event_Equal.calls _ _ y187 _ _ x7_2 true _ ?side1 ?side2 ?side3 ?side4 A80.out).mono ?_); (case side1 => repeat (first | exact (Kd.N_reads' HO189.out).2.2 | (with_reducible refine Kd.C_alloc ?_ _) | (with_reducible refine Kd.C_drewN ?_ _) | (with_reducible refine Kd.C_drew ?_))); (case side2 => exact (Kd.N_reads' HO189.out).2.1); (case side3 => repeat (first | exact (Kd.N_reads' HO_7.out).2.2 | (with_reducible refine Kd.C_alloc ?_ _) | (with_reducible refine Kd.C_drewN ?_ _) | (with_reducible refine Kd.C_drew ?_))); (case side4 => exact (Kd.N_reads' HO_7.out).2.1); rintro e w' ⟨rfl, ⟨nd, rfl⟩⟩))
                                          go_ret
                                          exact ⟨by first | rfl | (simp [errW_none, errW_some] <;> rfl) | (simp only [← hji65]; first | rfl | (simp [errW_none, errW_some] <;> rfl)) | (simp [*, errW_none, errW_some] <;> rfl), by repeat (first | (with_reducible first | exact HB.out | apply below_alloc | apply pw_below_drewN | apply below_drew1 | refine below_set ?_ GE166.out) | exact HB.out)⟩
                                        · replace c81 := Bool.eq_false_iff.mpr c81
                                          subst c81
                                          have H1 : ((forebaylaw21_awake.f kj56).bind fun t192 => (some t192)) = some r := by rw [if_neg (show ¬ (false = true) by decide)] at H; exact H
                                          clear H
                                          have H := H1
                                          clear H1
                                          replace H := Option.bind_eq_some_iff.mp H
                                          obtain ⟨t192, A910, H⟩ := H
                                          replace H : (some t192) = some r := H
                                          have A91 := Aside0.mk A910
                                          clear A910
                                          obtain rfl := Option.some.inj H
                                          try go_wp2
                                          have n0_ := Aside0.mk (Kd.N_drew HO_7.out)
                                          have n1_ := Aside0.mk (blk_drew BK166.out)
                                          have n2_ := Aside0.mk (below_drew1 HB.out)
                                          clear HO_7
                                          clear BK166
                                          clear HB
                                          have HO_7 := n0_
                                          have BK166 := n1_
                                          have HB := n2_
                                          clear n0_ n1_ n2_
                                          have q93 : (a2 : Int) ≤ ((x7_2.length : Int) : Int) := of_decide_eq_true (by first | (with_reducible assumption) | assumption)
                                          obtain ⟨i093, hi093, _, hsz93, _⟩ := info_parts info46
                                          have hroom93 : x7_2.length ≤ co31 := (Kd.N_reads' HO_7.out).2.1
                                          have hC93 : Kd.F k46 _ _ Ao31 x7_2.length x7_2 := (Kd.V_at (base := w.heap.size) (Kd.N_V HO_7.out)).2.2
                                          have hcut93 := cut_to (P := Try.prog) 22 46 .i64 Try.underlying22 hi093 Ao31 x7_2.length co31 a2 (of_decide_eq_true (by first | (with_reducible assumption) | assumption)) q93 hroom93
                                          have hr93 := Kd.F_take (m := (a2 : Int).toNat) hC93 (by omega)
                                          have hy93 : y174.length = (a2 : Int).toNat := (by rw [Ny174.out, List.length_take]; omega)
                                          rw [← Ny174.out] at hr93
                                          rw [← hy93] at hcut93
                                          have HO178 := Aside0.mk (show Kd.V k46 46 _ w.heap.size _ (.slice Ao31 y174.length co31) y174 from Kd.V_mk (by omega) hr93)
                                          have HC178 := Aside0.mk (show y174.length ≤ co31 from by omega)
                                          clear hr93 hC93 hroom93 hi093 hsz93
                                          have KY93 := Aside0.mk hy93
                                          clear hy93
                                          replace q93 := eq_true q93
                                          have q94 : ((ji65) : Int) ≤ ((x7_2.length : Int) : Int) := of_decide_eq_true (by first | (with_reducible assumption) | assumption)
                                          obtain ⟨i094, hi094, _, hsz94, _⟩ := info_parts info46
                                          have hroom94 : x7_2.length ≤ co31 := (Kd.N_reads' HO_7.out).2.1
                                          have hC94 : Kd.F k46 _ _ Ao31 x7_2.length x7_2 := (Kd.V_at (base := w.heap.size) (Kd.N_V HO_7.out)).2.2
                                          have q094 : (0 : Int) ≤ ((ji65) : Int) := of_decide_eq_true (by first | (with_reducible assumption) | assumption)
                                          have hcut94 := cut_from (P := Try.prog) 22 46 .i64 Try.underlying22 hi094 6 hsz94 Ao31 x7_2.length co31 (ji65) q094 q94
                                          have hr94 := Kd.F_cut (m := ((ji65) : Int).toNat) (c := co31) hC94 (by omega) hroom94
                                          obtain ⟨A94, hA94⟩ : ∃ A1, A1 = (if co31 = ((ji65) : Int).toNat then Ao31 else (Ao31 : Option Addr).map (·.add (((ji65) : Int).toNat * 6))) := ⟨_, rfl⟩
                                          obtain ⟨c94, hc94⟩ : ∃ c1, c1 = co31 - ((ji65) : Int).toNat := ⟨_, rfl⟩
                                          have hy94 : y182.length = x7_2.length - ((ji65) : Int).toNat := (by rw [Ny182.out, List.length_drop] <;> omega)
                                          rw [show (x7_2).drop ((ji65) : Int).toNat = y182 from Ny182.out.symm] at hr94
                                          replace hr94 : Kd.F k46 _ _ A94 y182.length y182 := (by rw [hA94]; exact hr94)
                                          rw [← hy94, ← hA94, ← hc94] at hcut94
                                          have HO186 := Aside0.mk (show Kd.V k46 46 _ w.heap.size _ (.slice A94 y182.length c94) y182 from Kd.V_mk (by rw [hy94, hc94]; exact Nat.sub_le_sub_right hroom94 _) hr94)
                                          have HC186 := Aside0.mk (show y182.length ≤ c94 from by rw [hy94, hc94]; exact Nat.sub_le_sub_right hroom94 _)
                                          clear hr94 hC94 hroom94 hi094 hsz94 hc94
                                          have KY94 := Aside0.mk hy94
                                          have KA94 := Aside0.mk hA94
                                          clear hy94 hA94
                                          replace q94 := eq_true q94
                                          refine start_ (n := 11) (S := fun w' => True) (ds := []) #[false, false, false, false, false, false, false, false, false, false, false] (by kernel_rfl) rfl rfl trivial (fun hHeld => ?_); refine with_tabW forebaylaw21_EventCovers.tab19 forebaylaw21_EventCovers.bits19 (fun HT_ HW_ => ?_)
                                          generalize wc.drew = w92 at HO_7 BK166 HB HO178 HO186 hHeld ⊢
                                          refine pure_ (i := 1) (N := some 117) (v := ?_) (a' := ?_) #[false, true, false, false, false, false, false, false, false, false, false] rfl rfl (any_of HT_.out (by kernel_rfl)) (fun _ _ _ h => h) (Or.inl ⟨by rfl, ?_⟩) ?_ ?_
                                          rotate_left
                                          · intro w'
                                            go_simp
                                            with_reducible rfl
                                          rotate_left
                                          · simp only [Act.put, List.setIfInBounds_toArray, List.set_cons_zero, List.set_cons_succ, i64_w, i32_w]
                                            rfl
                                          refine pure_ (i := 2) (N := some 118) (v := ?_) (a' := ?_) #[false, true, true, false, false, false, false, false, false, false, false] rfl rfl (any_of HT_.out (by kernel_rfl)) (fun _ _ _ h => h) (Or.inl ⟨by rfl, ?_⟩) ?_ ?_
                                          rotate_left
                                          · intro w'
                                            go_simp
                                            with_reducible rfl
                                          rotate_left
                                          · simp only [Act.put, List.setIfInBounds_toArray, List.set_cons_zero, List.set_cons_succ, i64_w, i32_w]
                                            rfl
                                          refine pure_ (i := 3) (N := some 119) (v := ?_) (a' := ?_) #[false, true, true, true, false, false, false, false, false, false, false] rfl rfl (any_of HT_.out (by kernel_rfl)) (fun _ _ _ h => h) (Or.inl ⟨by rfl, ?_⟩) ?_ ?_
                                          rotate_left
                                          · intro w'
                                            go_simp
                                            with_reducible rfl
                                          rotate_left
                                          · simp only [Act.put, List.setIfInBounds_toArray, List.set_cons_zero, List.set_cons_succ, i64_w, i32_w]
                                            rfl
                                          refine pure_ (i := 5) (N := some 121) (v := ?_) (a' := ?_) #[false, true, true, true, false, true, false, false, false, false, false] rfl rfl (any_of HT_.out (by kernel_rfl)) (fun _ _ _ h => h) (Or.inl ⟨by rfl, ?_⟩) ?_ ?_
                                          rotate_left
                                          · intro w'
                                            go_simp
                                            with_reducible rfl
                                          rotate_left
                                          · simp only [Act.put, List.setIfInBounds_toArray, List.set_cons_zero, List.set_cons_succ, i64_w, i32_w]
                                            rfl
                                          refine pure_ (i := 6) (N := some 122) (v := ?_) (a' := ?_) #[false, true, true, true, false, true, true, false, false, false, false] rfl rfl (any_of HT_.out (by kernel_rfl)) (fun _ _ _ h => h) (Or.inl ⟨by rfl, ?_⟩) ?_ ?_
                                          rotate_left
                                          · intro w'
                                            go_simp
                                            with_reducible rfl
                                          rotate_left
                                          · simp only [Act.put, List.setIfInBounds_toArray, List.set_cons_zero, List.set_cons_succ, i64_w, i32_w]
                                            rfl
                                          refine pure_ (i := 7) (N := some 123) (v := ?_) (a' := ?_) #[false, true, true, true, false, true, true, true, false, false, false] rfl rfl (any_of HT_.out (by kernel_rfl)) (fun _ _ _ h => h) (Or.inl ⟨by rfl, ?_⟩) ?_ ?_
                                          rotate_left
                                          · intro w'
                                            go_simp
                                            with_reducible rfl
                                          rotate_left
                                          · simp only [Act.put, List.setIfInBounds_toArray, List.set_cons_zero, List.set_cons_succ, i64_w, i32_w]
                                            rfl
                                          refine pure_ (i := 8) (N := some 124) (v := ?_) (a' := ?_) #[false, true, true, true, false, true, true, true, true, false, false] rfl rfl (any_of HT_.out (by kernel_rfl)) (fun _ _ _ h => h) (Or.inl ⟨by rfl, ?_⟩) ?_ ?_
                                          rotate_left
                                          · intro w'
                                            go_simp
                                            with_reducible rfl
                                          rotate_left
                                          · simp only [Act.put, List.setIfInBounds_toArray, List.set_cons_zero, List.set_cons_succ, i64_w, i32_w]
                                            rfl
                                          refine one_ (i := 0) (N := some 116) #[true, true, true, true, false, true, true, true, true, false, false] rfl rfl (one_of HT_.out (by kernel_rfl)) (by decide) (fun K hK => ?_)
                                          refine Kd.N_lit_step k46 _ 46 ?hg (N' := 116) ?hd (xs := ([] : List (S46))) (inner := []) (ok := (fun k_ => some k_ ≠ (.slice Ao31 x7_2.length co31 : Value).ownBlock ∧ k_ ≠ gb166)) (okp := (fun k_ => some k_ ≠ (.slice Ao31 x7_2.length co31 : Value).ownBlock ∧ k_ ≠ gb166)) ?hr ?hp (fun _ hk => hk) ((show ∀ k_, w92.heap.size ≤ k_ → (fun k_ => some k_ ≠ (.slice Ao31 x7_2.length co31 : Value).ownBlock ∧ k_ ≠ gb166) k_ from fun k_ hk => ⟨Kd.fresh' (Kd.N_lt (by (with_reducible repeat (first | apply Kd.N_alloc | apply Kd.N_drewN | apply Kd.N_drew)); exact HO_7.out)) k_ hk, Kd.freshB (g := gb166) (o := .cells #[.int .i64 t159, .int .i64 t160, .int .i64 t161, .int .i64 t162, .int .i64 t163, .int .i64 t164, .int .i64 t165] 24 (0, 0)) (by (with_reducible repeat (first | refine blk_drewN ?_ _ | refine blk_drew ?_ | refine blk_alloc ?_ _)); exact BK166.out) k_ hk⟩) _ (Nat.le_refl _)) (Below.refl _ _) (Nat.le_refl _) (by simp) ?_; (case hd => rfl); (case hg => rfl); (case hr => first | (go_simp; done) | (go_simp; rfl)); (case hp => exact (Reps.none _ _))
                                          intro v172 w95 ho96 hb hg_ hnew_
                                          clear hg_ hnew_
                                          (first | rw [← Ny171.out] at ho96 | (simp only [Int.reduceToNat] at ho96; rw [← Ny171.out] at ho96))
                                          have n0_ := Aside0.mk (Kd.N_elder' (by (with_reducible repeat (first | apply Kd.N_alloc | apply Kd.N_drewN | apply Kd.N_drew)); exact HO_7.out) (Kd.N_base ho96) hb)
                                          have n1_ := Aside0.mk (Kd.V_elder' (by (with_reducible repeat (first | apply Kd.V_alloc | apply Kd.V_drewN | apply Kd.V_drew)); exact HO178.out) (Kd.N_base ho96) hb)
                                          have n2_ := Aside0.mk (Kd.V_elder' (by (with_reducible repeat (first | apply Kd.V_alloc | apply Kd.V_drewN | apply Kd.V_drew)); exact HO186.out) (Kd.N_base ho96) hb)
                                          have n3_ := Aside0.mk (Kd.N_lower ho96 (below_size (by repeat (first | (with_reducible first | exact HB.out | apply below_alloc | apply pw_below_drewN | apply below_drew1 | refine below_set ?_ GE166.out) | exact HB.out))))
                                          have n4_ := Aside0.mk (blk_below (g := gb166) (o := .cells #[.int .i64 t159, .int .i64 t160, .int .i64 t161, .int .i64 t162, .int .i64 t163, .int .i64 t164, .int .i64 t165] 24 (0, 0)) (by (with_reducible repeat (first | refine blk_drewN ?_ _ | refine blk_drew ?_ | refine blk_alloc ?_ _)); exact BK166.out) hb)
                                          have n5_ := Aside0.mk (below_step (by repeat (first | (with_reducible first | exact HB.out | apply below_alloc | apply pw_below_drewN | apply below_drew1 | refine below_set ?_ GE166.out) | exact HB.out)) hb)
                                          clear HO_7
                                          clear HO178
                                          clear HO186
                                          clear BK166
                                          clear HB
                                          have HO_7 := n0_
                                          have HO178 := n1_
                                          have HO186 := n2_
                                          have HO173 := n3_
                                          have BK166 := n4_
                                          have HB := n5_
                                          clear n0_ n1_ n2_ n3_ n4_ n5_
                                          clear hb ho96
                                          refine hK.out _ _ trivial (fun hHeld => ?_)
                                          clear hK K
                                          refine norm_ (a' := ?_) ?_ ?_
                                          rotate_left
                                          · show Act.put _ (some 116) _ = _
                                            simp only [Act.put, List.setIfInBounds_toArray, List.set_cons_zero, List.set_cons_succ, i64_w, i32_w]
                                            rfl
                                          refine one_ (i := 4) (N := some 120) #[true, true, true, true, true, true, true, true, true, false, false] rfl rfl (one_of HT_.out (by kernel_rfl)) (by decide) (fun K hK => ?_)
                                          refine Kd.N_append_rows_step k46 (w0 := w) w.heap.size (by rfl) (.tmp 116) (.tmp 119) 22 46 (.agg #[(.int .i64 0), (.int .i64 0), (.int .i64 0), (.slice none 0 0), (.int .i64 0), (.int .i64 0)]) 64 rfl Try.underlying22 info46 rfl (by decide) (by omega) v172 y171 y174 _ _ _ (fun k_ => k_ ≠ gb166) (fun k_ => ((fun k_ => k_ ≠ gb166)) k_ ∧ some k_ ≠ (v172 : Value).ownBlock) rfl rfl ?aO ?aR (fun _ hk => hk) ?aF ?aB ?aS ?aL ?_
                                          (case aR => exact (by skip; exact Kd.V_F (Kd.V_mono (ok' := (fun k_ => ((fun k_ => k_ ≠ gb166)) k_ ∧ some k_ ≠ (v172 : Value).ownBlock)) (HO178.out) (fun k_ hk => ⟨hk.1, hk.2⟩))))
                                          (case aB => exact (by repeat (first | (with_reducible first | exact HB.out | apply below_alloc | apply pw_below_drewN | apply below_drew1 | refine below_set ?_ GE166.out) | exact HB.out)))
                                          (case aF => exact (fun k_ hk => Kd.freshB (g := gb166) (o := .cells #[.int .i64 t159, .int .i64 t160, .int .i64 t161, .int .i64 t162, .int .i64 t163, .int .i64 t164, .int .i64 t165] 24 (0, 0)) (by (with_reducible repeat (first | refine blk_drewN ?_ _ | refine blk_drew ?_ | refine blk_alloc ?_ _)); exact BK166.out) k_ hk))
                                          (case aO => exact (by (with_reducible repeat (first | apply Kd.N_alloc | apply Kd.N_drewN | apply Kd.N_drew)); exact Kd.N_mono HO173.out (fun _ hk => hk.2)))
                                          (case aS => exact (below_size (by repeat (first | (with_reducible first | exact HB.out | apply below_alloc | apply pw_below_drewN | apply below_drew1 | refine below_set ?_ GE166.out) | exact HB.out))))
                                          (case aL => have := LMc64.out; omega)
                                          intro v180 w97 ho hb hg hat
                                          rw [← Ny179.out] at ho
                                          have n0_ := Aside0.mk (Kd.N_afterv (ok := (fun k_ => k_ ≠ gb166)) (by (with_reducible repeat (first | apply Kd.N_alloc | apply Kd.N_drewN | apply Kd.N_drew)); exact HO_7.out) hg hat)
                                          have n1_ := Aside0.mk (blk_grown (g := gb166) (o := .cells #[.int .i64 t159, .int .i64 t160, .int .i64 t161, .int .i64 t162, .int .i64 t163, .int .i64 t164, .int .i64 t165] 24 (0, 0)) (by (with_reducible repeat (first | refine blk_drewN ?_ _ | refine blk_drew ?_ | refine blk_alloc ?_ _)); exact BK166.out) hg (Kd.N_ne HO173.out BK166.out (by decide)))
                                          have n2_ := Aside0.mk (Kd.V_afterv (ok := (fun k_ => k_ ≠ gb166)) (by (with_reducible repeat (first | apply Kd.V_alloc | apply Kd.V_drewN | apply Kd.V_drew)); exact HO178.out) hg hat)
                                          have n3_ := Aside0.mk (Kd.V_afterv (ok := (fun k_ => k_ ≠ gb166)) (by (with_reducible repeat (first | apply Kd.V_alloc | apply Kd.V_drewN | apply Kd.V_drew)); exact HO186.out) hg hat)
                                          have n4_ := Aside0.mk (hb)
                                          have n5_ := Aside0.mk (ho)
                                          clear HO_7
                                          clear BK166
                                          clear HO178
                                          clear HO186
                                          clear HB
                                          clear HO173
                                          have HO_7 := n0_
                                          have BK166 := n1_
                                          have HO178 := n2_
                                          have HO186 := n3_
                                          have HB := n4_
                                          have HO181 := n5_
                                          clear n0_ n1_ n2_ n3_ n4_ n5_
                                          clear ho hb hg hat
                                          refine hK.out _ _ trivial (fun hHeld => ?_)
                                          clear hK K
                                          refine norm_ (a' := ?_) ?_ ?_
                                          rotate_left
                                          · show Act.put _ (some 120) _ = _
                                            simp only [Act.put, List.setIfInBounds_toArray, List.set_cons_zero, List.set_cons_succ, i64_w, i32_w]
                                            rfl
                                          refine one_ (i := 9) (N := some 125) #[true, true, true, true, true, true, true, true, true, true, false] rfl rfl (one_of HT_.out (by kernel_rfl)) (by decide) (fun K hK => ?_)
                                          refine Kd.N_append_rows_step k46 (w0 := w) w.heap.size (by rfl) (.tmp 120) (.tmp 124) 22 46 (.agg #[(.int .i64 0), (.int .i64 0), (.int .i64 0), (.slice none 0 0), (.int .i64 0), (.int .i64 0)]) 64 rfl Try.underlying22 info46 rfl (by decide) (by omega) v180 y179 y182 _ _ _ (fun k_ => k_ ≠ gb166) (fun k_ => ((fun k_ => k_ ≠ gb166)) k_ ∧ some k_ ≠ (v180 : Value).ownBlock) rfl rfl ?aO ?aR (fun _ hk => hk) ?aF ?aB ?aS ?aL ?_
                                          (case aR => exact (by skip; exact Kd.V_F (Kd.V_mono (ok' := (fun k_ => ((fun k_ => k_ ≠ gb166)) k_ ∧ some k_ ≠ (v180 : Value).ownBlock)) (HO186.out) (fun k_ hk => ⟨hk.1, hk.2⟩))))
                                          (case aB => exact (by repeat (first | (with_reducible first | exact HB.out | apply below_alloc | apply pw_below_drewN | apply below_drew1 | refine below_set ?_ GE166.out) | exact HB.out)))
                                          (case aF => exact (fun k_ hk => Kd.freshB (g := gb166) (o := .cells #[.int .i64 t159, .int .i64 t160, .int .i64 t161, .int .i64 t162, .int .i64 t163, .int .i64 t164, .int .i64 t165] 24 (0, 0)) (by (with_reducible repeat (first | refine blk_drewN ?_ _ | refine blk_drew ?_ | refine blk_alloc ?_ _)); exact BK166.out) k_ hk))
                                          (case aO => exact (by (with_reducible repeat (first | apply Kd.N_alloc | apply Kd.N_drewN | apply Kd.N_drew)); exact HO181.out))
                                          (case aS => exact (below_size (by repeat (first | (with_reducible first | exact HB.out | apply below_alloc | apply pw_below_drewN | apply below_drew1 | refine below_set ?_ GE166.out) | exact HB.out))))
                                          (case aL => have := LMc68.out; omega)
                                          intro v188 w98 ho hb hg hat
                                          rw [← Ny187.out] at ho
                                          have n0_ := Aside0.mk (Kd.N_afterv (ok := (fun k_ => k_ ≠ gb166)) (by (with_reducible repeat (first | apply Kd.N_alloc | apply Kd.N_drewN | apply Kd.N_drew)); exact HO_7.out) hg hat)
                                          have n1_ := Aside0.mk (blk_grown (g := gb166) (o := .cells #[.int .i64 t159, .int .i64 t160, .int .i64 t161, .int .i64 t162, .int .i64 t163, .int .i64 t164, .int .i64 t165] 24 (0, 0)) (by (with_reducible repeat (first | refine blk_drewN ?_ _ | refine blk_drew ?_ | refine blk_alloc ?_ _)); exact BK166.out) hg (Kd.N_ne HO181.out BK166.out (by decide)))
                                          have n2_ := Aside0.mk (Kd.V_afterv (ok := (fun k_ => k_ ≠ gb166)) (by (with_reducible repeat (first | apply Kd.V_alloc | apply Kd.V_drewN | apply Kd.V_drew)); exact HO178.out) hg hat)
                                          have n3_ := Aside0.mk (Kd.V_afterv (ok := (fun k_ => k_ ≠ gb166)) (by (with_reducible repeat (first | apply Kd.V_alloc | apply Kd.V_drewN | apply Kd.V_drew)); exact HO186.out) hg hat)
                                          have n4_ := Aside0.mk (hb)
                                          have n5_ := Aside0.mk (ho)
                                          clear HO_7
                                          clear BK166
                                          clear HO178
                                          clear HO186
                                          clear HB
                                          clear HO181
                                          have HO_7 := n0_
                                          have BK166 := n1_
                                          have HO178 := n2_
                                          have HO186 := n3_
                                          have HB := n4_
                                          have HO189 := n5_
                                          clear n0_ n1_ n2_ n3_ n4_ n5_
                                          clear ho hb hg hat
                                          refine hK.out _ _ trivial (fun hHeld => ?_)
                                          clear hK K
                                          refine norm_ (a' := ?_) ?_ ?_
                                          rotate_left
                                          · show Act.put _ (some 125) _ = _
                                            simp only [Act.put, List.setIfInBounds_toArray, List.set_cons_zero, List.set_cons_succ, i64_w, i32_w]
                                            rfl
                                          refine pure_ (i := 10) (N := some 13) (v := ?_) (a' := ?_) #[true, true, true, true, true, true, true, true, true, true, true] rfl rfl (any_of HT_.out (by kernel_rfl)) (fun _ _ _ h => h) (Or.inl ⟨by rfl, ?_⟩) ?_ ?_
                                          rotate_left
                                          · intro w'
                                            go_simp
                                            with_reducible rfl
                                          rotate_left
                                          · simp only [Act.put, List.setIfInBounds_toArray, List.set_cons_zero, List.set_cons_succ, i64_w, i32_w]
                                            rfl
                                          refine done_ (done_of HT_.out (by kernel_rfl)) ?_
                                          obtain ⟨Ao99, co99, eo99⟩ := Kd.N_slice HO189.out
                                          subst eo99
                                          try go_wp2_with (first | ((with_reducible refine gate_callee (f := 18) rfl ?_); refine goesL_ (some 128) rfl rfl Try.func18 (by kernel_rfl) rfl #[.slice Ao99 y187.length co99, .int .i64 x8_2] rfl (by (try simp only [List.map_toArray, List.map_cons, List.map_nil]); first | done | rfl | (simp only [List.length_drop, List.length_take]; rfl)) ?_; (with_reducible refine (event_Covers.calls kj56 _ _ y187 x8_2 false _ ?side1 ?side2 A69.out).mono ?_); (case side1 => repeat (first | exact (Kd.N_reads' HO189.out).2.2 | (with_reducible refine Kd.C_alloc ?_ _) | (with_reducible refine Kd.C_drewN ?_ _) | (with_reducible refine Kd.C_drew ?_))); (case side2 => exact (Kd.N_reads' HO189.out).2.1); rintro e w100 ⟨rfl, hb⟩; refine ⟨_, rfl, ?_⟩; have n0_ := Aside0.mk (Kd.N_below (by (with_reducible repeat (first | apply Kd.N_alloc | apply Kd.N_drewN | apply Kd.N_drew)); exact HO_7.out) hb); have n1_ := Aside0.mk (Kd.V_below (by (with_reducible repeat (first | apply Kd.V_alloc | apply Kd.V_drewN | apply Kd.V_drew)); exact HO178.out) hb); have n2_ := Aside0.mk (Kd.V_below (by (with_reducible repeat (first | apply Kd.V_alloc | apply Kd.V_drewN | apply Kd.V_drew)); exact HO186.out) hb); have n3_ := Aside0.mk (Kd.N_below (by (with_reducible repeat (first | apply Kd.N_alloc | apply Kd.N_drewN | apply Kd.N_drew)); exact HO189.out) hb); have n4_ := Aside0.mk (blk_below (g := gb166) (o := .cells #[.int .i64 t159, .int .i64 t160, .int .i64 t161, .int .i64 t162, .int .i64 t163, .int .i64 t164, .int .i64 t165] 24 (0, 0)) (by (with_reducible repeat (first | refine blk_drewN ?_ _ | refine blk_drew ?_ | refine blk_alloc ?_ _)); exact BK166.out) hb); have n5_ := Aside0.mk (below_step (by repeat (first | (with_reducible first | exact HB.out | apply below_alloc | apply pw_below_drewN | apply below_drew1 | refine below_set ?_ GE166.out) | exact HB.out)) hb); clear HO_7; clear HO178; clear HO186; clear HO189; clear BK166; clear HB; have HO_7 := n0_; have HO178 := n1_; have HO186 := n2_; have HO189 := n3_; have BK166 := n4_; have HB := n5_; clear n0_ n1_ n2_ n3_ n4_ n5_; (try clear hb); (try clear hb2); (try clear hk); (try clear hi)) | (go_at_call 19; (with_reducible refine (event_Equal.calls _ _ y187 _ _ x7_2 false _ ?side1 ?side2 ?side3 ?side4 A80.out).mono ?_); (case side1 => repeat (first | exact (Kd.N_reads' HO189.out).2.2 | (with_reducible refine Kd.C_alloc ?_ _) | (with_reducible refine Kd.C_drewN ?_ _) | (with_reducible refine Kd.C_drew ?_))); (case side2 => exact (Kd.N_reads' HO189.out).2.1); (case side3 => repeat (first | exact (Kd.N_reads' HO_7.out).2.2 | (with_reducible refine Kd.C_alloc ?_ _) | (with_reducible refine Kd.C_drewN ?_ _) | (with_reducible refine Kd.C_drew ?_))); (case side4 => exact (Kd.N_reads' HO_7.out).2.1); rintro e w' ⟨rfl, ⟨nd, rfl⟩⟩) | (go_at_call 10; (with_reducible refine (forebaylaw21_awake.calls kj56  t192 _ A91.out).mono ?_); rintro e w101 ⟨rfl, hb⟩; have n0_ := Aside0.mk (Kd.N_below (by (with_reducible repeat (first | apply Kd.N_alloc | apply Kd.N_drewN | apply Kd.N_drew)); exact HO_7.out) hb); have n1_ := Aside0.mk (Kd.V_below (by (with_reducible repeat (first | apply Kd.V_alloc | apply Kd.V_drewN | apply Kd.V_drew)); exact HO178.out) hb); have n2_ := Aside0.mk (Kd.V_below (by (with_reducible repeat (first | apply Kd.V_alloc | apply Kd.V_drewN | apply Kd.V_drew)); exact HO186.out) hb); have n3_ := Aside0.mk (Kd.N_below (by (with_reducible repeat (first | apply Kd.N_alloc | apply Kd.N_drewN | apply Kd.N_drew)); exact HO189.out) hb); have n4_ := Aside0.mk (blk_below (g := gb166) (o := .cells #[.int .i64 t159, .int .i64 t160, .int .i64 t161, .int .i64 t162, .int .i64 t163, .int .i64 t164, .int .i64 t165] 24 (0, 0)) (by (with_reducible repeat (first | refine blk_drewN ?_ _ | refine blk_drew ?_ | refine blk_alloc ?_ _)); exact BK166.out) hb); have n5_ := Aside0.mk (below_step (by repeat (first | (with_reducible first | exact HB.out | apply below_alloc | apply pw_below_drewN | apply below_drew1 | refine below_set ?_ GE166.out) | exact HB.out)) hb); clear HO_7; clear HO178; clear HO186; clear HO189; clear BK166; clear HB; have HO_7 := n0_; have HO178 := n1_; have HO186 := n2_; have HO189 := n3_; have BK166 := n4_; have HB := n5_; clear n0_ n1_ n2_ n3_ n4_ n5_; (try clear hb); (try clear hb2); (try clear hk); (try clear hi)))
                                          go_ret
                                          exact ⟨by first | rfl | (simp [errW_none, errW_some] <;> rfl) | (simp only [← hji65]; first | rfl | (simp [errW_none, errW_some] <;> rfl)) | (simp [*, errW_none, errW_some] <;> rfl), by repeat (first | (with_reducible first | exact HB.out | apply below_alloc | apply pw_below_drewN | apply below_drew1 | refine below_set ?_ GE166.out) | exact HB.out)⟩
                                    · rw [if_neg c68] at H
                                      exact absurd H (by simp)
                                  · rw [if_neg c67] at H
                                    exact absurd H (by simp)
                                · rw [if_neg c66] at H
                                  exact absurd H (by simp)
                              · rw [if_neg c64] at H
                                exact absurd H (by simp)
                            · rw [if_neg c63] at H
                              exact absurd H (by simp)
                          · rw [if_neg c62] at H
                            exact absurd H (by simp)

/-- THE ONE PURE STATEMENT of forebaylaw21_EventCovers: yours. -/
def forebaylaw21_EventCovers.Pure : Prop := ∀ (l0 : List Int) (l1 : List Int) (a2 : Int), l0.length ≤ maxLen → l0.length * 8 ≤ 140737488351232 → (∀ x ∈ l0, (Lit.int .i64 x).wf = true) → l1.length ≤ maxLen → l1.length * 8 ≤ 140737488351232 → (∀ x ∈ l1, (Lit.int .i64 x).wf = true) → (Lit.int .i64 a2).wf = true → ∃ k, forebaylaw21_EventCovers.f k l0 l1 a2 = some true
theorem forebaylaw21_EventCovers.walk (P : forebaylaw21_EventCovers.Pure) (a0 : Option Addr) (len0 cap0 : Nat) (z0 : List Int) (a1 : Option Addr) (len1 cap1 : Nat) (z1 : List Int) (a2 : Int) (w : World) (w0 : (a0 = none ∧ len0 = 0 ∧ cap0 = 0 ∧ z0 = []) ∨ ∃ x, a0 = some x ∧ len0 ≤ cap0 ∧ cap0 ≤ maxLen ∧ z0.length = cap0 ∧ (∀ i, i < z0.length → w.cell? (x.add i) = some (.int .i64 (z0.getD i 0))) ∧ ∀ n ∈ z0, (Lit.int .i64 n).wf = true) (y0 : len0 * 8 ≤ 140737488351232) (w1 : (a1 = none ∧ len1 = 0 ∧ cap1 = 0 ∧ z1 = []) ∨ ∃ x, a1 = some x ∧ len1 ≤ cap1 ∧ cap1 ≤ maxLen ∧ z1.length = cap1 ∧ (∀ i, i < z1.length → w.cell? (x.add i) = some (.int .i64 (z1.getD i 0))) ∧ ∀ n ∈ z1, (Lit.int .i64 n).wf = true) (y1 : len1 * 8 ≤ 140737488351232) (w2 : (Lit.int .i64 a2).wf = true) :
    Calls Try.prog 5 #[.slice a0 len0 cap0, .slice a1 len1 cap1, .int .i64 a2] w fun e w' => e = .returned (.bool true) ∧ Below w.heap.size w w' := by
  obtain ⟨l0, rfl, hr0, hm0, hw0, hc0⟩ := ReadsInt.ofRowC w0
  obtain ⟨l1, rfl, hr1, hm1, hw1, hc1⟩ := ReadsInt.ofRowC w1
  obtain ⟨k, h⟩ := P l0 l1 a2 hm0 y0 hw0 hm1 y1 hw1 w2
  refine (forebaylaw21_EventCovers.calls k _ _ l0 _ _ l1 a2 true w (Kd.C_of_reads (d := (0 : Int)) (h1 := fun _ => rfl) hr0) hc0 (Kd.C_of_reads (d := (0 : Int)) (h1 := fun _ => rfl) hr1) hc1 h).mono ?_
  rintro e w' ⟨rfl, hd⟩
  exact ⟨rfl, hd⟩

end Go.Proofs.Ytigchloekolaoaa.PEventCovers

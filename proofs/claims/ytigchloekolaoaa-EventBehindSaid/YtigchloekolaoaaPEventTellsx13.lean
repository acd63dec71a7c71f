-- Laid by the kit's print over bodies of the prover's own for a few functions
import Derived.Test.YtigchloekolaoaaPEventTellsx0
namespace Go.Proofs.Ytigchloekolaoaa.PEventTells
open Go.RowKit Go.Proofs.YtigchloekolaoaaW.PrintWords Go.Proofs.YtigchloekolaoaaW.PrintLast Go.Proofs.YtigchloekolaoaaW.PrintMore
attribute [local go_sem] max2_int min2_int max_two min_two max_three min_three max_four min_four   -- for this text's walks alone
set_option linter.unusedVariables false
set_option linter.unusedSimpArgs false

/-! ### forebayref21_Covers: function 26 -/
def forebayref21_Covers.l0 : Nat → List (S46) → Int → Int → Option (Bool)
 | 0, _, _, _ => none
 | k + 1, x0, x1, x5 => if x5 < (x0.length : Int) then (if x5 > 0 then (if 0 ≤ (wrap64 (x5 - 1)) then (if (wrap64 (x5 - 1)) < (x0.length : Int) then (if 0 ≤ x5 then (if ((rd_T46 x0 x5).f1) = ((rd_T46 x0 (wrap64 (x5 - 1))).f2) then (if ((rd_T46 x0 x5).f1) ≥ ((rd_T46 x0 x5).f2) then (some false) else (forebayref21_Covers.l0 k x0 x1 (wrap64 (x5 + 1)))) else (some false)) else (none)) else (none)) else (none)) else (if 0 ≤ x5 then (if ((rd_T46 x0 x5).f1) = 0 then (if ((rd_T46 x0 x5).f1) ≥ ((rd_T46 x0 x5).f2) then (some false) else (forebayref21_Covers.l0 k x0 x1 (wrap64 (x5 + 1)))) else (some false)) else (none))) else (if 0 ≤ (wrap64 ((x0.length : Int) - 1)) then (if (wrap64 ((x0.length : Int) - 1)) < (x0.length : Int) then (some (((rd_T46 x0 (wrap64 ((x0.length : Int) - 1))).f2) == x1)) else (none)) else (none))
def forebayref21_Covers.f (k : Nat) (l0 : List (S46)) (a1 : Int) : Option (Bool) := if (l0.length : Int) = 0 then (some (a1 == 0)) else (forebayref21_Covers.l0 k l0 a1 0)
theorem forebayref21_Covers.mono_l : ∀ k, (∀ y0 y1 y2, LeO (forebayref21_Covers.l0 k y0 y1 y2) (forebayref21_Covers.l0 (k + 1) y0 y1 y2))
 | 0 => fun _ _ _ r h => by simp [forebayref21_Covers.l0] at h
 | k + 1 => by
  have ih0 := forebayref21_Covers.mono_l k
  ·intro y0 y1 y2
   unfold forebayref21_Covers.l0
   repeat' first
   | (with_reducible exact ih0 _ _ _)
   | (with_reducible exact LeO.refl _)
   | (with_reducible exact LeO.none _)
   | (with_reducible refine LeO.ite ?_ ?_)
   | (with_reducible refine LeO.bind ?_ (fun _ => ?_))
   | exact ih0 _ _ _
   | exact LeO.none _
   | refine LeO.ite ?_ ?_
   | refine LeO.bind ?_ (fun _ => ?_)
theorem forebayref21_Covers.mono : ∀ a0 a1 k, LeO (forebayref21_Covers.f k a0 a1) (forebayref21_Covers.f (k + 1) a0 a1) := by
 intro a0 a1 k
 have ih0 := forebayref21_Covers.mono_l k
 unfold forebayref21_Covers.f
 repeat' first
   | (with_reducible exact ih0 _ _ _)
   | (with_reducible exact LeO.refl _)
   | (with_reducible exact LeO.none _)
   | (with_reducible refine LeO.ite ?_ ?_)
   | (with_reducible refine LeO.bind ?_ (fun _ => ?_))
   | exact ih0 _ _ _
   | exact LeO.none _
   | refine LeO.ite ?_ ?_
   | refine LeO.bind ?_ (fun _ => ?_)
set_option maxHeartbeats 8000000 in
set_option maxRecDepth 100000 in
theorem forebayref21_Covers.calls (k : Nat) (A0 : Option Addr) (c0 : Nat) (l0 : List (S46)) (a1 : Int) (r : Bool) (w : World) (hr0 : Kd.C k46 w A0 l0.length l0) (hc0 : l0.length ≤ c0) (h : forebayref21_Covers.f k l0 a1 = some r) :
  Calls Try.prog 26 #[.slice A0 l0.length c0, .int .i64 a1] w fun e w' => e = .returned (.bool r) ∧ Drawn0 w w' := by
 have HR0 := Aside0.mk hr0
 have HC0 := Aside0.mk hc0
 clear hr0 hc0
 have H : (if (l0.length : Int) = 0 then (some (a1 == 0)) else (forebayref21_Covers.l0 k l0 a1 0)) = some r := h
 clear h
 by_cases c3 : (l0.length : Int) = 0
 ·rw [if_pos c3] at H
  have c3b0 : ((l0.length : Int) == 0) = true := beq_iff_eq.mpr c3
  have c3b1 : ((l0.length : Int) != 0) = false := bne_eq_false_iff_eq.mpr c3
  clear c3
  obtain rfl := Option.some.inj H
  go_enter Try.func26, Try.ntmps26
  go_wp2
  repeat (go_quiet (fail); try go_wp2)
  go_ret
  exact ⟨by first | rfl | (simp; done) | (simp [*]; done), by repeat (first | exact Drawn0.refl _ | apply Drawn0.step)⟩
 ·rw [if_neg c3] at H
  have c3b0 : ((l0.length : Int) == 0) = false := beq_eq_false_iff_ne.mpr c3
  have c3b1 : ((l0.length : Int) != 0) = true := bne_iff_ne.mpr c3
  have c3b2 : ¬ (l0 = []) := fun h_ => c3 (by rw [h_]; rfl)
  have H' := Aside0.mk H
  clear H
  go_enter Try.func26, Try.ntmps26
  go_wp2
  repeat (go_quiet (fail); try go_wp2)
  go_loopg [5] k (fun kq v5 w' => ∃ (x5_1 : Int), v5 = .int .i64 x5_1 ∧ Aside0 (forebayref21_Covers.l0 kq l0 a1 x5_1 = some r) ∧ Aside0 (kq ≤ k) ∧ Drawn0 w w')
  case atStart => exact ⟨(0), (by first | rfl | (simp; done) | (simp [*]; done)), H', ⟨Nat.le_refl _⟩, by repeat (first | exact Drawn0.refl _ | apply Drawn0.step)⟩
  case round =>
   clear H'
   try clear c2
   try clear p2
   try clear c3
   try clear c3b0
   try clear c3b1
   try clear c3b2
   obtain ⟨x5_1, rfl, HA, HK1, ⟨m1, rfl⟩⟩ := hrel
   cases gk with
   | zero => exact absurd HA.out (by simp [forebayref21_Covers.l0])
   | succ k1 =>
    have H := HA.out
    clear HA
    simp only [forebayref21_Covers.l0] at H
    by_cases c4 : x5_1 < (l0.length : Int)
    ·rw [if_pos c4] at H
     have c4b0 : decide (x5_1 < (l0.length : Int)) = true := decide_eq_true c4
     clear c4
     by_cases c5 : x5_1 > 0
     ·rw [if_pos c5] at H
      have c5b0 : decide (0 < x5_1) = true := decide_eq_true c5
      clear c5
      obtain ⟨ji6, hji6⟩ : ∃ j_ : Int, (wrap64 (x5_1 - 1)) = j_ := ⟨_, rfl⟩
      replace H : (if 0 ≤ (ji6) then (if (ji6) < (l0.length : Int) then (if 0 ≤ x5_1 then (if ((rd_T46 l0 x5_1).f1) = ((rd_T46 l0 (ji6)).f2) then (if ((rd_T46 l0 x5_1).f1) ≥ ((rd_T46 l0 x5_1).f2) then (some false) else (forebayref21_Covers.l0 k1 l0 a1 (wrap64 (x5_1 + 1)))) else (some false)) else (none)) else (none)) else (none)) = some r := by first | (rw [hji6] at H; exact H) | (simp only [hji6] at H ⊢; exact H)
      have hji6w : (IntKind.i64.wrap (x5_1 - 1)) = ji6 := (i64_w _).trans hji6
      by_cases c7 : 0 ≤ (ji6)
      ·rw [if_pos c7] at H
       have c7b0 : decide (0 ≤ (ji6)) = true := decide_eq_true c7
       clear c7
       by_cases c8 : (ji6) < (l0.length : Int)
       ·rw [if_pos c8] at H
        have c8b0 : decide ((ji6) < (l0.length : Int)) = true := decide_eq_true c8
        clear c8
        by_cases c9 : 0 ≤ x5_1
        ·rw [if_pos c9] at H
         have c9b0 : decide (0 ≤ x5_1) = true := decide_eq_true c9
         clear c9
         by_cases c10 : ((rd_T46 l0 x5_1).f1) = ((rd_T46 l0 (ji6)).f2)
         ·rw [if_pos c10] at H
          have c10b0 : (((rd_T46 l0 x5_1).f1) == ((rd_T46 l0 (ji6)).f2)) = true := beq_iff_eq.mpr c10
          have c10b1 : (((rd_T46 l0 x5_1).f1) != ((rd_T46 l0 (ji6)).f2)) = false := bne_eq_false_iff_eq.mpr c10
          clear c10
          by_cases c11 : ((rd_T46 l0 x5_1).f1) ≥ ((rd_T46 l0 x5_1).f2)
          ·rw [if_pos c11] at H
           have c11b0 : decide (((rd_T46 l0 x5_1).f2) ≤ ((rd_T46 l0 x5_1).f1)) = true := decide_eq_true c11
           clear c11
           obtain rfl := Option.some.inj H
           have p313 : 0 ≤ ((ji6) : Int) := of_decide_eq_true (by first | (with_reducible assumption) | assumption)
           have q313 : (ji6) < (l0.length : Int) := of_decide_eq_true (by first | (with_reducible assumption) | assumption)
           obtain ⟨ad313, A313_3, c313_3, e313, hx313_0, hx313_1, hx313_2, hx313_3, hx313_4, hx313_5, hl313_3, hi313_3⟩ := at_T46 HR0.out (ji6) p313 q313
           cases e313
           have HR313_3 := Aside0.mk hi313_3
           have HC313_3 := Aside0.mk hl313_3
           clear hi313_3 hl313_3
           replace p313 := eq_true p313
           replace q313 := eq_true q313
           have p314 : 0 ≤ (x5_1 : Int) := of_decide_eq_true (by first | (with_reducible assumption) | assumption)
           have q314 : x5_1 < (l0.length : Int) := of_decide_eq_true (by first | (with_reducible assumption) | assumption)
           obtain ⟨ad314, A314_3, c314_3, e314, hx314_0, hx314_1, hx314_2, hx314_3, hx314_4, hx314_5, hl314_3, hi314_3⟩ := at_T46 HR0.out x5_1 p314 q314
           obtain rfl : ad313 = ad314 := (by injection e314)
           have HR314_3 := Aside0.mk hi314_3
           have HC314_3 := Aside0.mk hl314_3
           clear hi314_3 hl314_3
           replace p314 := eq_true p314
           replace q314 := eq_true q314
           have p315 : 0 ≤ (x5_1 : Int) := of_decide_eq_true (by first | (with_reducible assumption) | assumption)
           have q315 : x5_1 < (l0.length : Int) := of_decide_eq_true (by first | (with_reducible assumption) | assumption)
           obtain ⟨ad315, A315_3, c315_3, e315, hx315_0, hx315_1, hx315_2, hx315_3, hx315_4, hx315_5, hl315_3, hi315_3⟩ := at_T46 HR0.out x5_1 p315 q315
           obtain rfl : ad313 = ad315 := (by injection e315)
           have HR315_3 := Aside0.mk hi315_3
           have HC315_3 := Aside0.mk hl315_3
           clear hi315_3 hl315_3
           replace p315 := eq_true p315
           replace q315 := eq_true q315
           have ea_ := Option.some.inj (hx314_3.symm.trans hx315_3)
           injection ea_ with ea_ en_ ec_
           subst ea_
           subst ec_
           clear en_
           have p316 : 0 ≤ (x5_1 : Int) := of_decide_eq_true (by first | (with_reducible assumption) | assumption)
           have q316 : x5_1 < (l0.length : Int) := of_decide_eq_true (by first | (with_reducible assumption) | assumption)
           obtain ⟨ad316, A316_3, c316_3, e316, hx316_0, hx316_1, hx316_2, hx316_3, hx316_4, hx316_5, hl316_3, hi316_3⟩ := at_T46 HR0.out x5_1 p316 q316
           obtain rfl : ad313 = ad316 := (by injection e316)
           have HR316_3 := Aside0.mk hi316_3
           have HC316_3 := Aside0.mk hl316_3
           clear hi316_3 hl316_3
           replace p316 := eq_true p316
           replace q316 := eq_true q316
           have ea_ := Option.some.inj (hx314_3.symm.trans hx316_3)
           injection ea_ with ea_ en_ ec_
           subst ea_
           subst ec_
           clear en_
           go_wp2
           repeat (go_quiet (fail); try go_wp2)
           go_ret
           exact ⟨by first | rfl | (simp; done) | (simp only [← hji6] <;> (first | rfl | simp)) | (simp [*]; done), by repeat (first | exact Drawn0.refl _ | apply Drawn0.step)⟩
          ·rw [if_neg c11] at H
           have c11b0 : decide (((rd_T46 l0 x5_1).f2) ≤ ((rd_T46 l0 x5_1).f1)) = false := decide_eq_false c11
           clear c11
           have H' := Aside0.mk H
           clear H
           have p313 : 0 ≤ ((ji6) : Int) := of_decide_eq_true (by first | (with_reducible assumption) | assumption)
           have q313 : (ji6) < (l0.length : Int) := of_decide_eq_true (by first | (with_reducible assumption) | assumption)
           obtain ⟨ad313, A313_3, c313_3, e313, hx313_0, hx313_1, hx313_2, hx313_3, hx313_4, hx313_5, hl313_3, hi313_3⟩ := at_T46 HR0.out (ji6) p313 q313
           cases e313
           have HR313_3 := Aside0.mk hi313_3
           have HC313_3 := Aside0.mk hl313_3
           clear hi313_3 hl313_3
           replace p313 := eq_true p313
           replace q313 := eq_true q313
           have p314 : 0 ≤ (x5_1 : Int) := of_decide_eq_true (by first | (with_reducible assumption) | assumption)
           have q314 : x5_1 < (l0.length : Int) := of_decide_eq_true (by first | (with_reducible assumption) | assumption)
           obtain ⟨ad314, A314_3, c314_3, e314, hx314_0, hx314_1, hx314_2, hx314_3, hx314_4, hx314_5, hl314_3, hi314_3⟩ := at_T46 HR0.out x5_1 p314 q314
           obtain rfl : ad313 = ad314 := (by injection e314)
           have HR314_3 := Aside0.mk hi314_3
           have HC314_3 := Aside0.mk hl314_3
           clear hi314_3 hl314_3
           replace p314 := eq_true p314
           replace q314 := eq_true q314
           have p315 : 0 ≤ (x5_1 : Int) := of_decide_eq_true (by first | (with_reducible assumption) | assumption)
           have q315 : x5_1 < (l0.length : Int) := of_decide_eq_true (by first | (with_reducible assumption) | assumption)
           obtain ⟨ad315, A315_3, c315_3, e315, hx315_0, hx315_1, hx315_2, hx315_3, hx315_4, hx315_5, hl315_3, hi315_3⟩ := at_T46 HR0.out x5_1 p315 q315
           obtain rfl : ad313 = ad315 := (by injection e315)
           have HR315_3 := Aside0.mk hi315_3
           have HC315_3 := Aside0.mk hl315_3
           clear hi315_3 hl315_3
           replace p315 := eq_true p315
           replace q315 := eq_true q315
           have ea_ := Option.some.inj (hx314_3.symm.trans hx315_3)
           injection ea_ with ea_ en_ ec_
           subst ea_
           subst ec_
           clear en_
           have p316 : 0 ≤ (x5_1 : Int) := of_decide_eq_true (by first | (with_reducible assumption) | assumption)
           have q316 : x5_1 < (l0.length : Int) := of_decide_eq_true (by first | (with_reducible assumption) | assumption)
           obtain ⟨ad316, A316_3, c316_3, e316, hx316_0, hx316_1, hx316_2, hx316_3, hx316_4, hx316_5, hl316_3, hi316_3⟩ := at_T46 HR0.out x5_1 p316 q316
           obtain rfl : ad313 = ad316 := (by injection e316)
           have HR316_3 := Aside0.mk hi316_3
           have HC316_3 := Aside0.mk hl316_3
           clear hi316_3 hl316_3
           replace p316 := eq_true p316
           replace q316 := eq_true q316
           have ea_ := Option.some.inj (hx314_3.symm.trans hx316_3)
           injection ea_ with ea_ en_ ec_
           subst ea_
           subst ec_
           clear en_
           go_wp2
           repeat (go_quiet (fail); try go_wp2)
           go_roundg k1
           case measure => have := HK1.out; omega
           case rel => exact ⟨(wrap64 (x5_1 + 1)), (by first | rfl | (simp; done) | (simp [*]; done)), H', ⟨by have := HK1.out; omega⟩, by repeat (first | exact Drawn0.refl _ | apply Drawn0.step)⟩
         ·rw [if_neg c10] at H
          have c10b0 : (((rd_T46 l0 x5_1).f1) == ((rd_T46 l0 (ji6)).f2)) = false := beq_eq_false_iff_ne.mpr c10
          have c10b1 : (((rd_T46 l0 x5_1).f1) != ((rd_T46 l0 (ji6)).f2)) = true := bne_iff_ne.mpr c10
          obtain rfl := Option.some.inj H
          have p313 : 0 ≤ ((ji6) : Int) := of_decide_eq_true (by first | (with_reducible assumption) | assumption)
          have q313 : (ji6) < (l0.length : Int) := of_decide_eq_true (by first | (with_reducible assumption) | assumption)
          obtain ⟨ad313, A313_3, c313_3, e313, hx313_0, hx313_1, hx313_2, hx313_3, hx313_4, hx313_5, hl313_3, hi313_3⟩ := at_T46 HR0.out (ji6) p313 q313
          cases e313
          have HR313_3 := Aside0.mk hi313_3
          have HC313_3 := Aside0.mk hl313_3
          clear hi313_3 hl313_3
          replace p313 := eq_true p313
          replace q313 := eq_true q313
          have p314 : 0 ≤ (x5_1 : Int) := of_decide_eq_true (by first | (with_reducible assumption) | assumption)
          have q314 : x5_1 < (l0.length : Int) := of_decide_eq_true (by first | (with_reducible assumption) | assumption)
          obtain ⟨ad314, A314_3, c314_3, e314, hx314_0, hx314_1, hx314_2, hx314_3, hx314_4, hx314_5, hl314_3, hi314_3⟩ := at_T46 HR0.out x5_1 p314 q314
          obtain rfl : ad313 = ad314 := (by injection e314)
          have HR314_3 := Aside0.mk hi314_3
          have HC314_3 := Aside0.mk hl314_3
          clear hi314_3 hl314_3
          replace p314 := eq_true p314
          replace q314 := eq_true q314
          go_wp2
          repeat (go_quiet (fail); try go_wp2)
          go_ret
          exact ⟨by first | rfl | (simp; done) | (simp only [← hji6] <;> (first | rfl | simp)) | (simp [*]; done), by repeat (first | exact Drawn0.refl _ | apply Drawn0.step)⟩
        ·rw [if_neg c9] at H
         exact absurd H (by simp)
       ·rw [if_neg c8] at H
        exact absurd H (by simp)
      ·rw [if_neg c7] at H
       exact absurd H (by simp)
     ·rw [if_neg c5] at H
      have c5b0 : decide (0 < x5_1) = false := decide_eq_false c5
      clear c5
      by_cases c12 : 0 ≤ x5_1
      ·rw [if_pos c12] at H
       have c12b0 : decide (0 ≤ x5_1) = true := decide_eq_true c12
       clear c12
       by_cases c13 : ((rd_T46 l0 x5_1).f1) = 0
       ·rw [if_pos c13] at H
        have c13b0 : (((rd_T46 l0 x5_1).f1) == 0) = true := beq_iff_eq.mpr c13
        have c13b1 : (((rd_T46 l0 x5_1).f1) != 0) = false := bne_eq_false_iff_eq.mpr c13
        clear c13
        by_cases c14 : ((rd_T46 l0 x5_1).f1) ≥ ((rd_T46 l0 x5_1).f2)
        ·rw [if_pos c14] at H
         have c14b0 : decide (((rd_T46 l0 x5_1).f2) ≤ ((rd_T46 l0 x5_1).f1)) = true := decide_eq_true c14
         clear c14
         obtain rfl := Option.some.inj H
         have p317 : 0 ≤ (x5_1 : Int) := of_decide_eq_true (by first | (with_reducible assumption) | assumption)
         have q317 : x5_1 < (l0.length : Int) := of_decide_eq_true (by first | (with_reducible assumption) | assumption)
         obtain ⟨ad317, A317_3, c317_3, e317, hx317_0, hx317_1, hx317_2, hx317_3, hx317_4, hx317_5, hl317_3, hi317_3⟩ := at_T46 HR0.out x5_1 p317 q317
         cases e317
         have HR317_3 := Aside0.mk hi317_3
         have HC317_3 := Aside0.mk hl317_3
         clear hi317_3 hl317_3
         replace p317 := eq_true p317
         replace q317 := eq_true q317
         have p318 : 0 ≤ (x5_1 : Int) := of_decide_eq_true (by first | (with_reducible assumption) | assumption)
         have q318 : x5_1 < (l0.length : Int) := of_decide_eq_true (by first | (with_reducible assumption) | assumption)
         obtain ⟨ad318, A318_3, c318_3, e318, hx318_0, hx318_1, hx318_2, hx318_3, hx318_4, hx318_5, hl318_3, hi318_3⟩ := at_T46 HR0.out x5_1 p318 q318
         obtain rfl : ad317 = ad318 := (by injection e318)
         have HR318_3 := Aside0.mk hi318_3
         have HC318_3 := Aside0.mk hl318_3
         clear hi318_3 hl318_3
         replace p318 := eq_true p318
         replace q318 := eq_true q318
         have ea_ := Option.some.inj (hx317_3.symm.trans hx318_3)
         injection ea_ with ea_ en_ ec_
         subst ea_
         subst ec_
         clear en_
         have p319 : 0 ≤ (x5_1 : Int) := of_decide_eq_true (by first | (with_reducible assumption) | assumption)
         have q319 : x5_1 < (l0.length : Int) := of_decide_eq_true (by first | (with_reducible assumption) | assumption)
         obtain ⟨ad319, A319_3, c319_3, e319, hx319_0, hx319_1, hx319_2, hx319_3, hx319_4, hx319_5, hl319_3, hi319_3⟩ := at_T46 HR0.out x5_1 p319 q319
         obtain rfl : ad317 = ad319 := (by injection e319)
         have HR319_3 := Aside0.mk hi319_3
         have HC319_3 := Aside0.mk hl319_3
         clear hi319_3 hl319_3
         replace p319 := eq_true p319
         replace q319 := eq_true q319
         have ea_ := Option.some.inj (hx317_3.symm.trans hx319_3)
         injection ea_ with ea_ en_ ec_
         subst ea_
         subst ec_
         clear en_
         go_wp2
         repeat (go_quiet (fail); try go_wp2)
         go_ret
         exact ⟨by first | rfl | (simp; done) | (simp [*]; done), by repeat (first | exact Drawn0.refl _ | apply Drawn0.step)⟩
        ·rw [if_neg c14] at H
         have c14b0 : decide (((rd_T46 l0 x5_1).f2) ≤ ((rd_T46 l0 x5_1).f1)) = false := decide_eq_false c14
         clear c14
         have H' := Aside0.mk H
         clear H
         have p317 : 0 ≤ (x5_1 : Int) := of_decide_eq_true (by first | (with_reducible assumption) | assumption)
         have q317 : x5_1 < (l0.length : Int) := of_decide_eq_true (by first | (with_reducible assumption) | assumption)
         obtain ⟨ad317, A317_3, c317_3, e317, hx317_0, hx317_1, hx317_2, hx317_3, hx317_4, hx317_5, hl317_3, hi317_3⟩ := at_T46 HR0.out x5_1 p317 q317
         cases e317
         have HR317_3 := Aside0.mk hi317_3
         have HC317_3 := Aside0.mk hl317_3
         clear hi317_3 hl317_3
         replace p317 := eq_true p317
         replace q317 := eq_true q317
         have p318 : 0 ≤ (x5_1 : Int) := of_decide_eq_true (by first | (with_reducible assumption) | assumption)
         have q318 : x5_1 < (l0.length : Int) := of_decide_eq_true (by first | (with_reducible assumption) | assumption)
         obtain ⟨ad318, A318_3, c318_3, e318, hx318_0, hx318_1, hx318_2, hx318_3, hx318_4, hx318_5, hl318_3, hi318_3⟩ := at_T46 HR0.out x5_1 p318 q318
         obtain rfl : ad317 = ad318 := (by injection e318)
         have HR318_3 := Aside0.mk hi318_3
         have HC318_3 := Aside0.mk hl318_3
         clear hi318_3 hl318_3
         replace p318 := eq_true p318
         replace q318 := eq_true q318
         have ea_ := Option.some.inj (hx317_3.symm.trans hx318_3)
         injection ea_ with ea_ en_ ec_
         subst ea_
         subst ec_
         clear en_
         have p319 : 0 ≤ (x5_1 : Int) := of_decide_eq_true (by first | (with_reducible assumption) | assumption)
         have q319 : x5_1 < (l0.length : Int) := of_decide_eq_true (by first | (with_reducible assumption) | assumption)
         obtain ⟨ad319, A319_3, c319_3, e319, hx319_0, hx319_1, hx319_2, hx319_3, hx319_4, hx319_5, hl319_3, hi319_3⟩ := at_T46 HR0.out x5_1 p319 q319
         obtain rfl : ad317 = ad319 := (by injection e319)
         have HR319_3 := Aside0.mk hi319_3
         have HC319_3 := Aside0.mk hl319_3
         clear hi319_3 hl319_3
         replace p319 := eq_true p319
         replace q319 := eq_true q319
         have ea_ := Option.some.inj (hx317_3.symm.trans hx319_3)
         injection ea_ with ea_ en_ ec_
         subst ea_
         subst ec_
         clear en_
         go_wp2
         repeat (go_quiet (fail); try go_wp2)
         go_roundg k1
         case measure => have := HK1.out; omega
         case rel => exact ⟨(wrap64 (x5_1 + 1)), (by first | rfl | (simp; done) | (simp [*]; done)), H', ⟨by have := HK1.out; omega⟩, by repeat (first | exact Drawn0.refl _ | apply Drawn0.step)⟩
       ·rw [if_neg c13] at H
        have c13b0 : (((rd_T46 l0 x5_1).f1) == 0) = false := beq_eq_false_iff_ne.mpr c13
        have c13b1 : (((rd_T46 l0 x5_1).f1) != 0) = true := bne_iff_ne.mpr c13
        obtain rfl := Option.some.inj H
        have p317 : 0 ≤ (x5_1 : Int) := of_decide_eq_true (by first | (with_reducible assumption) | assumption)
        have q317 : x5_1 < (l0.length : Int) := of_decide_eq_true (by first | (with_reducible assumption) | assumption)
        obtain ⟨ad317, A317_3, c317_3, e317, hx317_0, hx317_1, hx317_2, hx317_3, hx317_4, hx317_5, hl317_3, hi317_3⟩ := at_T46 HR0.out x5_1 p317 q317
        cases e317
        have HR317_3 := Aside0.mk hi317_3
        have HC317_3 := Aside0.mk hl317_3
        clear hi317_3 hl317_3
        replace p317 := eq_true p317
        replace q317 := eq_true q317
        go_wp2
        repeat (go_quiet (fail); try go_wp2)
        go_ret
        exact ⟨by first | rfl | (simp; done) | (simp [*]; done), by repeat (first | exact Drawn0.refl _ | apply Drawn0.step)⟩
      ·rw [if_neg c12] at H
       exact absurd H (by simp)
    ·rw [if_neg c4] at H
     have c4b0 : decide (x5_1 < (l0.length : Int)) = false := decide_eq_false c4
     clear c4
     obtain ⟨ji15, hji15⟩ : ∃ j_ : Int, (wrap64 ((l0.length : Int) - 1)) = j_ := ⟨_, rfl⟩
     replace H : (if 0 ≤ (ji15) then (if (ji15) < (l0.length : Int) then (some (((rd_T46 l0 (ji15)).f2) == a1)) else (none)) else (none)) = some r := by first | (rw [hji15] at H; exact H) | (simp only [hji15] at H ⊢; exact H)
     have hji15w : (IntKind.i64.wrap ((l0.length : Int) - 1)) = ji15 := (i64_w _).trans hji15
     by_cases c16 : 0 ≤ (ji15)
     ·rw [if_pos c16] at H
      have c16b0 : decide (0 ≤ (ji15)) = true := decide_eq_true c16
      clear c16
      by_cases c17 : (ji15) < (l0.length : Int)
      ·rw [if_pos c17] at H
       have c17b0 : decide ((ji15) < (l0.length : Int)) = true := decide_eq_true c17
       clear c17
       obtain rfl := Option.some.inj H
       have p312 : 0 ≤ ((ji15) : Int) := of_decide_eq_true (by first | (with_reducible assumption) | assumption)
       have q312 : (ji15) < (l0.length : Int) := of_decide_eq_true (by first | (with_reducible assumption) | assumption)
       obtain ⟨ad312, A312_3, c312_3, e312, hx312_0, hx312_1, hx312_2, hx312_3, hx312_4, hx312_5, hl312_3, hi312_3⟩ := at_T46 HR0.out (ji15) p312 q312
       cases e312
       have HR312_3 := Aside0.mk hi312_3
       have HC312_3 := Aside0.mk hl312_3
       clear hi312_3 hl312_3
       replace p312 := eq_true p312
       replace q312 := eq_true q312
       go_wp2
       repeat (go_quiet (fail); try go_wp2)
       go_ret
       exact ⟨by first | rfl | (simp; done) | (simp only [← hji15] <;> (first | rfl | simp)) | (simp [*]; done), by repeat (first | exact Drawn0.refl _ | apply Drawn0.step)⟩
      ·rw [if_neg c17] at H
       exact absurd H (by simp)
     ·rw [if_neg c16] at H
      exact absurd H (by simp)

end Go.Proofs.Ytigchloekolaoaa.PEventTells

/-
  When events are the same, and cover a stream: the reference's way, in plain words.
-/
import Derived.Test.YtigchloekolaoaaEventTellsEqual
namespace Go.Proofs.Ytigchloekolaoaa.PEventTells
open Go.RowKit Go.Proofs.YtigchloekolaoaaW.PrintWords Go.Proofs.YtigchloekolaoaaW.PrintLast Go.Proofs.YtigchloekolaoaaW.PrintMore

theorem ref07_ev (m n : S36) (h : Sm m) : Ev (fun k => forebayref07_Equal.f k m.f0 m.f1 m.f2 m.f3 m.f4 m.f5 n.f0 n.f1 n.f2 n.f3 n.f4 n.f5) (metB m n) := by
  have hno : Ev (fun k => forebayref07_Equal.j0 k true m.f0 m.f1 m.f2 m.f3 m.f4 m.f5 n.f0 n.f1 n.f2 n.f3 n.f4 n.f5) false :=
    Ev.step (f := fun _ => some false) (fun k => by simp only [forebayref07_Equal.j0, if_true]) (Ev.now _)
  have h2 := h.2.1
  have h4 := h.2.2.1
  unfold forebayref07_Equal.f metB
  by_cases e0 : m.f0.toList = n.f0.toList
  · by_cases e1 : m.f1 = n.f1
    · by_cases e3 : m.f3 = n.f3
      · by_cases e5 : m.f5 = n.f5
        · simp only [if_pos e0, if_pos e1, if_pos e3, if_pos e5]
          rw [decide_eq_true ⟨e0, e1, e3, e5⟩, Bool.true_and]
          by_cases l2 : m.f2.length = n.f2.length
          · simp only [if_pos (show (m.f2.length : Int) = (n.f2.length : Int) by omega)]
            by_cases l4 : m.f4.length = n.f4.length
            · refine Ev.step (f := fun k => forebayref07_Equal.l0 k ((0 : Nat) : Int) m.f0 m.f1 m.f2 m.f3 m.f4 m.f5 n.f0 n.f1 n.f2 n.f3 n.f4 n.f5) (fun k => ?_) ?_
              · simp only [forebayref07_Equal.j0]
                rw [if_neg (by rw [l4]; simp)]
                rfl
              · have ht := ev_loop tagB z41 (fun k i => forebayref07_Equal.l1 k i m.f0 m.f1 m.f2 m.f3 m.f4 m.f5 n.f0 n.f1 n.f2 n.f3 n.f4 n.f5) m.f4 n.f4 true l4
                  (Ev.step (f := fun _ => some true) (fun k => by simp only [forebayref07_Equal.l1]; rw [if_neg (by omega)]) (Ev.now _)) (fun i hi r hr => ?_) m.f4.length 0 (by omega)
                · rw [List.drop_zero, List.drop_zero, Bool.and_true] at ht
                  have hd := ev_loop decB z39 (fun k i => forebayref07_Equal.l0 k i m.f0 m.f1 m.f2 m.f3 m.f4 m.f5 n.f0 n.f1 n.f2 n.f3 n.f4 n.f5) m.f2 n.f2 _ l2
                    (Ev.step (fun k => by simp only [forebayref07_Equal.l0]; rw [if_neg (by omega)]; rfl) ht) (fun i hi r hr => ?_) m.f2.length 0 (by omega)
                  · rw [List.drop_zero, List.drop_zero] at hd
                    exact hd
                  · have g0 : rd_T39 m.f2 (i : Int) = m.f2.getD i z39 := by unfold rd_T39; rw [Int.toNat_natCast]
                    have g1 : rd_T39 n.f2 (i : Int) = n.f2.getD i z39 := by unfold rd_T39; rw [Int.toNat_natCast]
                    cases hb : decB (m.f2.getD i z39) (n.f2.getD i z39) with
                    | true =>
                      rw [Bool.true_and]
                      refine Ev.step (fun k => ?_) hr
                      simp only [forebayref07_Equal.l0]
                      rw [if_pos (by omega), if_pos (by omega), if_pos (by omega), g0, g1, decB_not, hb, if_neg (by decide), w_succ (by omega) (by omega)]
                      rfl
                    | false =>
                      rw [Bool.false_and]
                      refine Ev.step (f := fun _ => some false) (fun k => ?_) (Ev.now _)
                      simp only [forebayref07_Equal.l0]
                      rw [if_pos (by omega), if_pos (by omega), if_pos (by omega), g0, g1, decB_not, hb, if_pos (by decide)]
                · have g0 : rd_T41 m.f4 (i : Int) = m.f4.getD i z41 := by unfold rd_T41; rw [Int.toNat_natCast]
                  have g1 : rd_T41 n.f4 (i : Int) = n.f4.getD i z41 := by unfold rd_T41; rw [Int.toNat_natCast]
                  cases hb : tagB (m.f4.getD i z41) (n.f4.getD i z41) with
                  | true =>
                    rw [Bool.true_and]
                    refine Ev.step (fun k => ?_) hr
                    simp only [forebayref07_Equal.l1]
                    rw [if_pos (by omega), if_pos (by omega), if_pos (by omega), g0, g1, tagB_not, hb, if_neg (by decide), w_succ (by omega) (by omega)]
                    rfl
                  | false =>
                    rw [Bool.false_and]
                    refine Ev.step (f := fun _ => some false) (fun k => ?_) (Ev.now _)
                    simp only [forebayref07_Equal.l1]
                    rw [if_pos (by omega), if_pos (by omega), if_pos (by omega), g0, g1, tagB_not, hb, if_pos (by decide)]
            · rw [allB_length _ _ _ l4, Bool.and_false]
              refine Ev.step (f := fun _ => some false) (fun k => ?_) (Ev.now _)
              simp only [forebayref07_Equal.j0]
              rw [if_pos (by rw [bne_iff_ne]; omega)]
          · simp only [if_neg (show ¬ (m.f2.length : Int) = (n.f2.length : Int) by omega)]
            rw [allB_length _ _ _ l2, Bool.false_and]
            exact hno
        · simp only [if_pos e0, if_pos e1, if_pos e3, if_neg e5]
          rw [decide_eq_false (fun h => e5 h.2.2.2), Bool.false_and]
          exact hno
      · simp only [if_pos e0, if_pos e1, if_neg e3]
        rw [decide_eq_false (fun h => e3 h.2.2.1), Bool.false_and]
        exact hno
    · simp only [if_pos e0, if_neg e1]
      rw [decide_eq_false (fun h => e1 h.2.1), Bool.false_and]
      exact hno
  · simp only [if_neg e0]
    rw [decide_eq_false (fun h => e0 h.1), Bool.false_and]
    exact hno

theorem ref21_ev (l0 l1 : List S46) (hmax : l0.length ≤ 1000) (hs : ∀ e ∈ l0, SmE e) : Ev (fun k => forebayref21_Equal.f k l0 l1) (allB evB l0 l1) := by
  by_cases hl : l0.length = l1.length
  · refine Ev.congr (f := fun k => forebayref21_Equal.l0 k l0 l1 ((0 : Nat) : Int)) (fun k => ?_) ?_
    · unfold forebayref21_Equal.f
      rw [if_pos (by omega)]
      rfl
    · have := ev_loop evB z46 (fun k i => forebayref21_Equal.l0 k l0 l1 i) l0 l1 true hl
        (Ev.step (f := fun _ => some true) (fun k => by simp only [forebayref21_Equal.l0]; rw [if_neg (by omega)]) (Ev.now _)) (fun i hi r hr => ?_) l0.length 0 (by omega)
      · rw [List.drop_zero, List.drop_zero, Bool.and_true] at this
        exact this
      · have g0 : rd_T46 l0 (i : Int) = l0.getD i z46 := by unfold rd_T46; rw [Int.toNat_natCast]
        have g1 : rd_T46 l1 (i : Int) = l1.getD i z46 := by unfold rd_T46; rw [Int.toNat_natCast]
        have hm0 : l0.getD i z46 ∈ l0 := by
          rw [List.getD_eq_getElem?_getD, List.getElem?_eq_getElem hi]
          exact List.getElem_mem hi
        have hsm := hs _ hm0
        generalize l0.getD i z46 = e at g0 hsm
        generalize l1.getD i z46 = f at g1
        have hno : Ev (fun k => forebayref21_Equal.j1 k l0 l1 (i : Int) true e.f0 e.f1 e.f2 e.f3 e.f4 e.f5 f.f0 f.f1 f.f2 f.f3 f.f4 f.f5) false :=
          Ev.step (f := fun _ => some false) (fun k => by simp only [forebayref21_Equal.j1, if_true]) (Ev.now _)
        have hyes : Ev (fun k => forebayref21_Equal.j1 k l0 l1 (i : Int) ((e.f3.length : Int) != (f.f3.length : Int)) e.f0 e.f1 e.f2 e.f3 e.f4 e.f5 f.f0 f.f1 f.f2 f.f3 f.f4 f.f5) (allB metB e.f3 f.f3 && r) := by
          by_cases l3 : e.f3.length = f.f3.length
          · refine Ev.step (f := fun k => forebayref21_Equal.l1 k l0 l1 (i : Int) ((0 : Nat) : Int) e.f0 e.f1 e.f2 e.f3 e.f4 e.f5 f.f0 f.f1 f.f2 f.f3 f.f4 f.f5) (fun k => ?_) ?_
            · simp only [forebayref21_Equal.j1]
              rw [if_neg (by rw [l3]; simp)]
              rfl
            · have hin := ev_loop metB z36 (fun k j => forebayref21_Equal.l1 k l0 l1 (i : Int) j e.f0 e.f1 e.f2 e.f3 e.f4 e.f5 f.f0 f.f1 f.f2 f.f3 f.f4 f.f5) e.f3 f.f3 r l3
                (Ev.step (fun k => by simp only [forebayref21_Equal.l1]; rw [if_neg (by omega), w_succ (by omega) (by omega)]; rfl) hr) (fun j hj q hq => ?_) e.f3.length 0 (by omega)
              · rw [List.drop_zero, List.drop_zero] at hin
                exact hin
              · have k0 : rd_T36 e.f3 (j : Int) = e.f3.getD j z36 := by unfold rd_T36; rw [Int.toNat_natCast]
                have k1 : rd_T36 f.f3 (j : Int) = f.f3.getD j z36 := by unfold rd_T36; rw [Int.toNat_natCast]
                have hmj : e.f3.getD j z36 ∈ e.f3 := by
                  rw [List.getD_eq_getElem?_getD, List.getElem?_eq_getElem hj]
                  exact List.getElem_mem hj
                have hsj := hsm.2 _ hmj
                have hej := hsm.1
                generalize e.f3.getD j z36 = m at k0 hsj
                generalize f.f3.getD j z36 = n at k1
                refine Ev.step (f := fun k => (forebayref07_Equal.f k m.f0 m.f1 m.f2 m.f3 m.f4 m.f5 n.f0 n.f1 n.f2 n.f3 n.f4 n.f5).bind fun t => if t = true then forebayref21_Equal.l1 k l0 l1 (i : Int) ((j + 1 : Nat) : Int) e.f0 e.f1 e.f2 e.f3 e.f4 e.f5 f.f0 f.f1 f.f2 f.f3 f.f4 f.f5 else some false) (fun k => ?_) ?_
                · simp only [forebayref21_Equal.l1]
                  rw [if_pos (by omega), if_pos (by omega), if_pos (by omega), k0, k1, w_succ (by omega) (by omega)]
                  rfl
                · refine Ev.bind (ref07_ev m n hsj) ?_
                  cases metB m n with
                  | true => simp only [if_true, Bool.true_and]; exact hq
                  | false => simp only [Bool.false_eq_true, if_false, Bool.false_and]; exact Ev.now _
          · rw [allB_length _ _ _ l3, Bool.false_and]
            refine Ev.step (f := fun _ => some false) (fun k => ?_) (Ev.now _)
            simp only [forebayref21_Equal.j1]
            rw [if_pos (by rw [bne_iff_ne]; omega)]
        unfold evB
        by_cases e0 : e.f0 = f.f0
        · by_cases e1 : e.f1 = f.f1
          · by_cases e2 : e.f2 = f.f2
            · by_cases e4 : e.f4 = f.f4
              · by_cases e5 : e.f5 = f.f5
                · rw [decide_eq_true ⟨e0, e1, e2, e4, e5⟩, Bool.true_and]
                  refine Ev.step (fun k => ?_) hyes
                  simp only [forebayref21_Equal.l0, g0, g1]
                  rw [if_pos (by omega), if_pos (by omega), if_pos (by omega), if_pos e0, if_pos e1, if_pos e2, if_pos e4, if_pos e5]
                · rw [decide_eq_false (fun h => e5 h.2.2.2.2), Bool.false_and, Bool.false_and]
                  refine Ev.step (fun k => ?_) hno
                  simp only [forebayref21_Equal.l0, g0, g1]
                  rw [if_pos (by omega), if_pos (by omega), if_pos (by omega), if_pos e0, if_pos e1, if_pos e2, if_pos e4, if_neg e5]
              · rw [decide_eq_false (fun h => e4 h.2.2.2.1), Bool.false_and, Bool.false_and]
                refine Ev.step (fun k => ?_) hno
                simp only [forebayref21_Equal.l0, g0, g1]
                rw [if_pos (by omega), if_pos (by omega), if_pos (by omega), if_pos e0, if_pos e1, if_pos e2, if_neg e4]
            · rw [decide_eq_false (fun h => e2 h.2.2.1), Bool.false_and, Bool.false_and]
              refine Ev.step (fun k => ?_) hno
              simp only [forebayref21_Equal.l0, g0, g1]
              rw [if_pos (by omega), if_pos (by omega), if_pos (by omega), if_pos e0, if_pos e1, if_neg e2]
          · rw [decide_eq_false (fun h => e1 h.2.1), Bool.false_and, Bool.false_and]
            refine Ev.step (fun k => ?_) hno
            simp only [forebayref21_Equal.l0, g0, g1]
            rw [if_pos (by omega), if_pos (by omega), if_pos (by omega), if_pos e0, if_neg e1]
        · rw [decide_eq_false (fun h => e0 h.1), Bool.false_and, Bool.false_and]
          refine Ev.step (fun k => ?_) hno
          simp only [forebayref21_Equal.l0, g0, g1]
          rw [if_pos (by omega), if_pos (by omega), if_pos (by omega), if_neg e0]
  · rw [allB_length _ _ _ hl]
    refine Ev.congr (f := fun _ => some false) (fun k => ?_) (Ev.now _)
    unfold forebayref21_Equal.f
    rw [if_neg (by omega)]

/-- Whether events cover a stream, from a place on. -/
def covB (z : Int) : Int → List S46 → Bool
  | at_, [] => at_ == z
  | at_, e :: es => decide (e.f1 = at_ ∧ ¬ e.f2 ≤ at_) && covB z e.f2 es

theorem cov_loop (l : List S46) (z : Int) (hl : l.length ≤ 1000) : ∀ (d i : Nat) (at_ : Int), i + d = l.length → Ev (fun k => event_Covers.l0 k z at_ l (l.length : Int) i) (covB z at_ (l.drop i)) := by
  intro d
  induction d with
  | zero =>
    intro i at_ hi
    rw [List.drop_eq_nil_of_le (by omega)]
    refine Ev.step (f := fun _ => some (at_ == z)) (fun k => ?_) (Ev.now _)
    simp only [event_Covers.l0]
    rw [if_neg (by omega)]
  | succ d ih =>
    intro i at_ hi
    have g0 : rd_T46 l (i : Int) = l.getD i z46 := by unfold rd_T46; rw [Int.toNat_natCast]
    rw [drop_step l i z46 (by omega)]
    unfold covB
    by_cases h1 : (l.getD i z46).f1 = at_
    · by_cases h2 : (l.getD i z46).f2 ≤ at_
      · rw [decide_eq_false (fun h => h.2 h2), Bool.false_and]
        refine Ev.step (f := fun _ => some false) (fun k => ?_) (Ev.now _)
        simp only [event_Covers.l0]
        rw [if_pos (by omega), if_pos (by omega), if_pos (by omega), g0, if_pos h1, if_pos h2]
      · rw [decide_eq_true ⟨h1, h2⟩, Bool.true_and]
        refine Ev.step (fun k => ?_) (ih (i + 1) _ (by omega))
        simp only [event_Covers.l0]
        rw [if_pos (by omega), if_pos (by omega), if_pos (by omega), g0, if_pos h1, if_neg h2, w_succ (by omega) (by omega)]
        rfl
    · rw [decide_eq_false (fun h => h1 h.1), Bool.false_and]
      refine Ev.step (f := fun _ => some false) (fun k => ?_) (Ev.now _)
      simp only [event_Covers.l0]
      rw [if_pos (by omega), if_pos (by omega), if_pos (by omega), g0, if_neg h1]

theorem cov_ev (l : List S46) (z : Int) (hl : l.length ≤ 1000) : Ev (fun k => event_Covers.f k l z) (covB z 0 l) := by
  have := cov_loop l z hl l.length 0 0 (by omega)
  exact this

theorem refcov_loop (l : List S46) (z : Int) (hl : l.length ≤ 1000) : ∀ (d i : Nat), i + d = l.length → 0 < l.length →
    Ev (fun k => forebayref21_Covers.l0 k l z i) (covB z (if i = 0 then 0 else (l.getD (i - 1) z46).f2) (l.drop i)) := by
  intro d
  induction d with
  | zero =>
    intro i hi hp
    have g1 : rd_T46 l ((l.length : Int) - 1) = l.getD (i - 1) z46 := by
      unfold rd_T46
      congr 1
      omega
    rw [List.drop_eq_nil_of_le (by omega), if_neg (by omega)]
    refine Ev.step (f := fun _ => some ((l.getD (i - 1) z46).f2 == z)) (fun k => ?_) (Ev.now _)
    simp only [forebayref21_Covers.l0]
    rw [if_neg (by omega), show wrap64 ((l.length : Int) - 1) = (l.length : Int) - 1 from by unfold wrap64; omega, if_pos (by omega), if_pos (by omega), g1]
  | succ d ih =>
    intro i hi hp
    have g0 : rd_T46 l (i : Int) = l.getD i z46 := by unfold rd_T46; rw [Int.toNat_natCast]
    have hr := ih (i + 1) (by omega) hp
    rw [if_neg (by omega), Nat.add_sub_cancel] at hr
    rw [drop_step l i z46 (by omega)]
    unfold covB
    by_cases hi0 : i = 0
    · subst hi0
      rw [if_pos rfl]
      by_cases h1 : (l.getD 0 z46).f1 = 0
      · by_cases h2 : (l.getD 0 z46).f2 ≤ 0
        · rw [decide_eq_false (fun h => h.2 h2), Bool.false_and]
          refine Ev.step (f := fun _ => some false) (fun k => ?_) (Ev.now _)
          simp only [forebayref21_Covers.l0]
          rw [if_pos (by omega), if_neg (by omega), if_pos (by omega), g0, if_pos h1, if_pos (by omega)]
        · rw [decide_eq_true ⟨h1, h2⟩, Bool.true_and]
          refine Ev.step (fun k => ?_) hr
          simp only [forebayref21_Covers.l0]
          rw [if_pos (by omega), if_neg (by omega), if_pos (by omega), g0, if_pos h1, if_neg (by omega), w_succ (by omega) (by omega)]
          rfl
      · rw [decide_eq_false (fun h => h1 h.1), Bool.false_and]
        refine Ev.step (f := fun _ => some false) (fun k => ?_) (Ev.now _)
        simp only [forebayref21_Covers.l0]
        rw [if_pos (by omega), if_neg (by omega), if_pos (by omega), g0, if_neg h1]
    · rw [if_neg hi0]
      have hw : wrap64 ((i : Int) - 1) = (i : Int) - 1 := by unfold wrap64; omega
      have g1 : rd_T46 l ((i : Int) - 1) = l.getD (i - 1) z46 := by
        unfold rd_T46
        congr 1
        omega
      by_cases h1 : (l.getD i z46).f1 = (l.getD (i - 1) z46).f2
      · by_cases h2 : (l.getD i z46).f2 ≤ (l.getD (i - 1) z46).f2
        · rw [decide_eq_false (fun h => h.2 h2), Bool.false_and]
          refine Ev.step (f := fun _ => some false) (fun k => ?_) (Ev.now _)
          simp only [forebayref21_Covers.l0]
          rw [if_pos (by omega), if_pos (by omega), hw, if_pos (by omega), if_pos (by omega), if_pos (by omega), g0, g1, if_pos h1, if_pos (by omega)]
        · rw [decide_eq_true ⟨h1, h2⟩, Bool.true_and]
          refine Ev.step (fun k => ?_) hr
          simp only [forebayref21_Covers.l0]
          rw [if_pos (by omega), if_pos (by omega), hw, if_pos (by omega), if_pos (by omega), if_pos (by omega), g0, g1, if_pos h1, if_neg (by omega), w_succ (by omega) (by omega)]
          rfl
      · rw [decide_eq_false (fun h => h1 h.1), Bool.false_and]
        refine Ev.step (f := fun _ => some false) (fun k => ?_) (Ev.now _)
        simp only [forebayref21_Covers.l0]
        rw [if_pos (by omega), if_pos (by omega), hw, if_pos (by omega), if_pos (by omega), if_pos (by omega), g0, g1, if_neg h1]

theorem refcov_ev (l : List S46) (z : Int) (hl : l.length ≤ 1000) : Ev (fun k => forebayref21_Covers.f k l z) (covB z 0 l) := by
  cases l with
  | nil =>
    refine Ev.congr (f := fun _ => some (z == 0)) (fun k => ?_) ?_
    · unfold forebayref21_Covers.f
      rw [if_pos (by rfl)]
    · have : covB z 0 [] = (z == 0) := by
        unfold covB
        rw [Bool.eq_iff_iff, beq_iff_eq, beq_iff_eq]
        exact ⟨Eq.symm, Eq.symm⟩
      rw [this]
      exact Ev.now _
  | cons e es =>
    have := refcov_loop (e :: es) z hl (e :: es).length 0 (by omega) (by simp)
    rw [if_pos rfl, List.drop_zero] at this
    refine Ev.congr (fun k => ?_) this
    unfold forebayref21_Covers.f
    rw [if_neg (by simp; omega)]
    rfl
end Go.Proofs.Ytigchloekolaoaa.PEventTells

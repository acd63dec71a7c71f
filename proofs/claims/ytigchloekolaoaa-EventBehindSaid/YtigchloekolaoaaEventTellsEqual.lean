/-
  When events are the same, in plain words: the program's way, and the reference's.
-/
import Derived.Test.YtigchloekolaoaaEventTellsPlain
namespace Go.Proofs.Ytigchloekolaoaa.PEventTells
open Go.RowKit Go.Proofs.YtigchloekolaoaaW.PrintWords Go.Proofs.YtigchloekolaoaaW.PrintLast Go.Proofs.YtigchloekolaoaaW.PrintMore

/-- One by one. -/
def allB {α : Type} (p : α → α → Bool) : List α → List α → Bool
  | [], [] => true
  | x :: xs, y :: ys => p x y && allB p xs ys
  | _, _ => false

theorem allB_length {α : Type} (p : α → α → Bool) : ∀ l0 l1 : List α, l0.length ≠ l1.length → allB p l0 l1 = false
  | [], [], h => absurd rfl h
  | [], _ :: _, _ => rfl
  | _ :: _, [], _ => rfl
  | x :: xs, y :: ys, h => by
    unfold allB
    rw [allB_length p xs ys (by simpa using h), Bool.and_false]

theorem allB_refl {α : Type} (p : α → α → Bool) (hp : ∀ x, p x x = true) : ∀ l : List α, allB p l l = true
  | [] => rfl
  | x :: xs => by
    unfold allB
    rw [hp, allB_refl p hp xs]
    rfl

def decB (x y : S39) : Bool := (x.f0 == y.f0) && ((x.f1 == y.f1) && (x.f2 == y.f2))
def tagB (x y : S41) : Bool := (x.f0.toList == y.f0.toList) && (x.f1.toList == y.f1.toList)
def metB (m n : S36) : Bool := decide (m.f0.toList = n.f0.toList ∧ m.f1 = n.f1 ∧ m.f3 = n.f3 ∧ m.f5 = n.f5) && (allB decB m.f2 n.f2 && allB tagB m.f4 n.f4)
def evB (e f : S46) : Bool := decide (e.f0 = f.f0 ∧ e.f1 = f.f1 ∧ e.f2 = f.f2 ∧ e.f4 = f.f4 ∧ e.f5 = f.f5) && allB metB e.f3 f.f3

theorem decB_refl (x : S39) : decB x x = true := by simp [decB]
theorem tagB_refl (x : S41) : tagB x x = true := by simp [tagB]
theorem metB_refl (x : S36) : metB x x = true := by
  unfold metB
  rw [allB_refl _ decB_refl, allB_refl _ tagB_refl]
  simp
theorem evB_refl (x : S46) : evB x x = true := by
  unfold evB
  rw [allB_refl _ metB_refl]
  simp

theorem ev_loop {α : Type} (p : α → α → Bool) (z : α) (G : Nat → Int → Option Bool) (l0 l1 : List α) (fin : Bool) (hlen : l0.length = l1.length) (hfin : Ev (fun k => G k (l0.length : Int)) fin)
    (hstep : ∀ (i : Nat), i < l0.length → ∀ r, Ev (fun k => G k ((i + 1 : Nat) : Int)) r → Ev (fun k => G k (i : Int)) (p (l0.getD i z) (l1.getD i z) && r)) :
    ∀ d i, i + d = l0.length → Ev (fun k => G k (i : Int)) (allB p (l0.drop i) (l1.drop i) && fin) := by
  intro d
  induction d with
  | zero =>
    intro i hi
    obtain rfl : i = l0.length := by omega
    rw [List.drop_eq_nil_of_le (Nat.le_refl _), List.drop_eq_nil_of_le (by omega)]
    exact hfin
  | succ d ih =>
    intro i hi
    rw [drop_step l0 i z (by omega), drop_step l1 i z (by omega)]
    unfold allB
    rw [Bool.and_assoc]
    exact hstep i (by omega) _ (ih (i + 1) (by omega))

theorem decB_not (x y : S39) : (!(x.f0 == y.f0) || (!(x.f1 == y.f1) || (!(x.f2 == y.f2)))) = !decB x y := by unfold decB; simp only [Bool.not_and]
theorem tagB_not (x y : S41) : (!(x.f0.toList == y.f0.toList) || (!(x.f1.toList == y.f1.toList))) = !tagB x y := by unfold tagB; simp only [Bool.not_and]

theorem dec63_ev (l0 l1 : List S39) (hmax : l0.length ≤ 1000) : Ev (fun k => api_Dec_63.f k l0 l1) (allB decB l0 l1) := by
  by_cases hl : l0.length = l1.length
  · refine Ev.congr (f := fun k => api_Dec_63.l0 k l0 l1 (l0.length : Int) ((0 : Nat) : Int)) (fun k => ?_) ?_
    · unfold api_Dec_63.f
      rw [if_pos (by omega)]
      rfl
    · have := ev_loop decB z39 (fun k i => api_Dec_63.l0 k l0 l1 (l0.length : Int) i) l0 l1 true hl
        (Ev.step (f := fun _ => some true) (fun k => by simp only [api_Dec_63.l0]; rw [if_neg (by omega)]) (Ev.now _)) (fun i hi r hr => ?_) l0.length 0 (by omega)
      · rw [List.drop_zero, List.drop_zero, Bool.and_true] at this
        exact this
      · have h0 : rd_T39 l0 (i : Int) = l0.getD i z39 := by unfold rd_T39; rw [Int.toNat_natCast]
        have h1 : rd_T39 l1 (i : Int) = l1.getD i z39 := by unfold rd_T39; rw [Int.toNat_natCast]
        cases hb : decB (l0.getD i z39) (l1.getD i z39) with
        | true =>
          rw [Bool.true_and]
          refine Ev.step (fun k => ?_) hr
          simp only [api_Dec_63.l0]
          rw [if_pos (by omega), if_pos (by omega), if_pos (by omega), if_pos (by omega), h0, h1, decB_not, hb, if_neg (by decide), w_succ (by omega) (by omega)]
          rfl
        | false =>
          rw [Bool.false_and]
          refine Ev.step (f := fun _ => some false) (fun k => ?_) (Ev.now _)
          simp only [api_Dec_63.l0]
          rw [if_pos (by omega), if_pos (by omega), if_pos (by omega), if_pos (by omega), h0, h1, decB_not, hb, if_pos (by decide)]
  · rw [allB_length _ _ _ hl]
    refine Ev.congr (f := fun _ => some false) (fun k => ?_) (Ev.now _)
    unfold api_Dec_63.f
    rw [if_neg (by omega)]

theorem tag64_ev (l0 l1 : List S41) (hmax : l0.length ≤ 1000) : Ev (fun k => api_Tag_64.f k l0 l1) (allB tagB l0 l1) := by
  by_cases hl : l0.length = l1.length
  · refine Ev.congr (f := fun k => api_Tag_64.l0 k l0 l1 (l0.length : Int) ((0 : Nat) : Int)) (fun k => ?_) ?_
    · unfold api_Tag_64.f
      rw [if_pos (by omega)]
      rfl
    · have := ev_loop tagB z41 (fun k i => api_Tag_64.l0 k l0 l1 (l0.length : Int) i) l0 l1 true hl
        (Ev.step (f := fun _ => some true) (fun k => by simp only [api_Tag_64.l0]; rw [if_neg (by omega)]) (Ev.now _)) (fun i hi r hr => ?_) l0.length 0 (by omega)
      · rw [List.drop_zero, List.drop_zero, Bool.and_true] at this
        exact this
      · have h0 : rd_T41 l0 (i : Int) = l0.getD i z41 := by unfold rd_T41; rw [Int.toNat_natCast]
        have h1 : rd_T41 l1 (i : Int) = l1.getD i z41 := by unfold rd_T41; rw [Int.toNat_natCast]
        cases hb : tagB (l0.getD i z41) (l1.getD i z41) with
        | true =>
          rw [Bool.true_and]
          refine Ev.step (fun k => ?_) hr
          simp only [api_Tag_64.l0]
          rw [if_pos (by omega), if_pos (by omega), if_pos (by omega), if_pos (by omega), h0, h1, tagB_not, hb, if_neg (by decide), w_succ (by omega) (by omega)]
          rfl
        | false =>
          rw [Bool.false_and]
          refine Ev.step (f := fun _ => some false) (fun k => ?_) (Ev.now _)
          simp only [api_Tag_64.l0]
          rw [if_pos (by omega), if_pos (by omega), if_pos (by omega), if_pos (by omega), h0, h1, tagB_not, hb, if_pos (by decide)]
  · rw [allB_length _ _ _ hl]
    refine Ev.congr (f := fun _ => some false) (fun k => ?_) (Ev.now _)
    unfold api_Tag_64.f
    rw [if_neg (by omega)]

theorem bind_some {α : Type} (x : Option α) : (x.bind fun t => some t) = x := by cases x <;> rfl

theorem met_ev (m n : S36) (h : Sm m) : Ev (fun k => metric_Equal.f k m.f0 m.f1 m.f2 m.f3 m.f4 m.f5 n.f0 n.f1 n.f2 n.f3 n.f4 n.f5) (metB m n) := by
  unfold metric_Equal.f metB
  by_cases h0 : m.f0.toList = n.f0.toList
  · by_cases h1 : m.f1 = n.f1
    · by_cases h3 : m.f3 = n.f3
      · by_cases h5 : m.f5 = n.f5
        · simp only [if_pos h0, if_pos h1, if_pos h3, if_pos h5]
          rw [decide_eq_true ⟨h0, h1, h3, h5⟩, Bool.true_and]
          refine Ev.bind (a := allB decB m.f2 n.f2) (Ev.congr (fun k => by unfold api_Dec_50.f; rw [bind_some]) (dec63_ev m.f2 n.f2 (by have := h.2.1; omega))) ?_
          cases allB decB m.f2 n.f2 with
          | true =>
            simp only [if_true, Bool.true_and]
            refine Ev.congr (f := fun k => api_Tag_64.f k m.f4 n.f4) (fun k => ?_) (tag64_ev m.f4 n.f4 (by have := h.2.2.1; omega))
            rw [bind_some]
            unfold api_Tag_51.f
            rw [bind_some]
          | false => simp only [Bool.false_eq_true, if_false, Bool.false_and]; exact Ev.now _
        · simp only [if_pos h0, if_pos h1, if_pos h3, if_neg h5]
          rw [decide_eq_false (fun h => h5 h.2.2.2), Bool.false_and]
          exact Ev.now _
      · simp only [if_pos h0, if_pos h1, if_neg h3]
        rw [decide_eq_false (fun h => h3 h.2.2.1), Bool.false_and]
        exact Ev.now _
    · simp only [if_pos h0, if_neg h1]
      rw [decide_eq_false (fun h => h1 h.2.1), Bool.false_and]
      exact Ev.now _
  · simp only [if_neg h0]
    rw [decide_eq_false (fun h => h0 h.1), Bool.false_and]
    exact Ev.now _

theorem batch_ev (l0 l1 : List S36) (hmax : l0.length ≤ 1000) (hs : ∀ m ∈ l0, Sm m) : Ev (fun k => batch_Equal.f k l0 l1) (allB metB l0 l1) := by
  by_cases hl : l0.length = l1.length
  · refine Ev.congr (f := fun k => batch_Equal.l0 k l1 l0 (l0.length : Int) ((0 : Nat) : Int)) (fun k => ?_) ?_
    · unfold batch_Equal.f
      rw [if_pos (by omega)]
      rfl
    · have := ev_loop metB z36 (fun k i => batch_Equal.l0 k l1 l0 (l0.length : Int) i) l0 l1 true hl
        (Ev.step (f := fun _ => some true) (fun k => by simp only [batch_Equal.l0]; rw [if_neg (by omega)]) (Ev.now _)) (fun i hi r hr => ?_) l0.length 0 (by omega)
      · rw [List.drop_zero, List.drop_zero, Bool.and_true] at this
        exact this
      · have h0 : rd_T36 l0 (i : Int) = l0.getD i z36 := by unfold rd_T36; rw [Int.toNat_natCast]
        have h1 : rd_T36 l1 (i : Int) = l1.getD i z36 := by unfold rd_T36; rw [Int.toNat_natCast]
        have hm0 : l0.getD i z36 ∈ l0 := by
          rw [List.getD_eq_getElem?_getD, List.getElem?_eq_getElem hi]
          exact List.getElem_mem hi
        refine Ev.step (f := fun k => (metric_Equal.f k (l0.getD i z36).f0 (l0.getD i z36).f1 (l0.getD i z36).f2 (l0.getD i z36).f3 (l0.getD i z36).f4 (l0.getD i z36).f5 (l1.getD i z36).f0 (l1.getD i z36).f1 (l1.getD i z36).f2 (l1.getD i z36).f3 (l1.getD i z36).f4 (l1.getD i z36).f5).bind fun t => if t = true then batch_Equal.l0 k l1 l0 (l0.length : Int) ((i + 1 : Nat) : Int) else some false) (fun k => ?_) ?_
        · simp only [batch_Equal.l0]
          rw [if_pos (by omega), if_pos (by omega), if_pos (by omega), if_pos (by omega), h0, h1, w_succ (by omega) (by omega)]
          rfl
        · refine Ev.bind (met_ev _ _ (hs _ hm0)) ?_
          cases metB (l0.getD i z36) (l1.getD i z36) with
          | true => simp only [if_true, Bool.true_and]; exact hr
          | false => simp only [Bool.false_eq_true, if_false, Bool.false_and]; exact Ev.now _
  · rw [allB_length _ _ _ hl]
    refine Ev.congr (f := fun _ => some false) (fun k => ?_) (Ev.now _)
    unfold batch_Equal.f
    rw [if_neg (by omega)]

/-- An event that is not too great. -/
def SmE (e : S46) : Prop := e.f3.length ≤ 40 ∧ ∀ m ∈ e.f3, Sm m

theorem evOne_ev (e f : S46) (h : SmE e) : Ev (fun k => event_EqualOne.f k e.f0 e.f1 e.f2 e.f3 e.f4 e.f5 f.f0 f.f1 f.f2 f.f3 f.f4 f.f5) (evB e f) := by
  unfold event_EqualOne.f evB
  by_cases h0 : e.f0 = f.f0
  · by_cases h1 : e.f1 = f.f1
    · by_cases h2 : e.f2 = f.f2
      · by_cases h4 : e.f4 = f.f4
        · by_cases h5 : e.f5 = f.f5
          · simp only [if_pos h0, if_pos h1, if_pos h2, if_pos h4, if_pos h5]
            rw [decide_eq_true ⟨h0, h1, h2, h4, h5⟩, Bool.true_and]
            refine Ev.congr (f := fun k => batch_Equal.f k e.f3 f.f3) (fun k => ?_) (batch_ev e.f3 f.f3 (by have := h.1; omega) h.2)
            rw [bind_some]
          · simp only [if_pos h0, if_pos h1, if_pos h2, if_pos h4, if_neg h5]
            rw [decide_eq_false (fun h => h5 h.2.2.2.2), Bool.false_and]
            exact Ev.now _
        · simp only [if_pos h0, if_pos h1, if_pos h2, if_neg h4]
          rw [decide_eq_false (fun h => h4 h.2.2.2.1), Bool.false_and]
          exact Ev.now _
      · simp only [if_pos h0, if_pos h1, if_neg h2]
        rw [decide_eq_false (fun h => h2 h.2.2.1), Bool.false_and]
        exact Ev.now _
    · simp only [if_pos h0, if_neg h1]
      rw [decide_eq_false (fun h => h1 h.2.1), Bool.false_and]
      exact Ev.now _
  · simp only [if_neg h0]
    rw [decide_eq_false (fun h => h0 h.1), Bool.false_and]
    exact Ev.now _

theorem evs_ev (l0 l1 : List S46) (hmax : l0.length ≤ 1000) (hs : ∀ e ∈ l0, SmE e) : Ev (fun k => event_Equal.f k l0 l1) (allB evB l0 l1) := by
  by_cases hl : l0.length = l1.length
  · refine Ev.congr (f := fun k => event_Equal.l0 k l1 l0 (l0.length : Int) ((0 : Nat) : Int)) (fun k => ?_) ?_
    · unfold event_Equal.f
      rw [if_pos (by omega)]
      rfl
    · have := ev_loop evB z46 (fun k i => event_Equal.l0 k l1 l0 (l0.length : Int) i) l0 l1 true hl
        (Ev.step (f := fun _ => some true) (fun k => by simp only [event_Equal.l0]; rw [if_neg (by omega)]) (Ev.now _)) (fun i hi r hr => ?_) l0.length 0 (by omega)
      · rw [List.drop_zero, List.drop_zero, Bool.and_true] at this
        exact this
      · have h0 : rd_T46 l0 (i : Int) = l0.getD i z46 := by unfold rd_T46; rw [Int.toNat_natCast]
        have h1 : rd_T46 l1 (i : Int) = l1.getD i z46 := by unfold rd_T46; rw [Int.toNat_natCast]
        have hm0 : l0.getD i z46 ∈ l0 := by
          rw [List.getD_eq_getElem?_getD, List.getElem?_eq_getElem hi]
          exact List.getElem_mem hi
        refine Ev.step (f := fun k => (event_EqualOne.f k (l0.getD i z46).f0 (l0.getD i z46).f1 (l0.getD i z46).f2 (l0.getD i z46).f3 (l0.getD i z46).f4 (l0.getD i z46).f5 (l1.getD i z46).f0 (l1.getD i z46).f1 (l1.getD i z46).f2 (l1.getD i z46).f3 (l1.getD i z46).f4 (l1.getD i z46).f5).bind fun t => if t = true then event_Equal.l0 k l1 l0 (l0.length : Int) ((i + 1 : Nat) : Int) else some false) (fun k => ?_) ?_
        · simp only [event_Equal.l0]
          rw [if_pos (by omega), if_pos (by omega), if_pos (by omega), if_pos (by omega), h0, h1, w_succ (by omega) (by omega)]
          rfl
        · refine Ev.bind (evOne_ev _ _ (hs _ hm0)) ?_
          cases evB (l0.getD i z46) (l1.getD i z46) with
          | true => simp only [if_true, Bool.true_and]; exact hr
          | false => simp only [Bool.false_eq_true, if_false, Bool.false_and]; exact Ev.now _
  · rw [allB_length _ _ _ hl]
    refine Ev.congr (f := fun _ => some false) (fun k => ?_) (Ev.now _)
    unfold event_Equal.f
    rw [if_neg (by omega)]

end Go.Proofs.Ytigchloekolaoaa.PEventTells

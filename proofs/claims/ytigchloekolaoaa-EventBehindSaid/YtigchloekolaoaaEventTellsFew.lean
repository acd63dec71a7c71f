/-
  The plain laws of the guard Few over the printed functions of EventTells: it ends, and what it tells.
-/
import Derived.Test.YtigchloekolaoaaPEventTellsx
namespace Go.Proofs.Ytigchloekolaoaa.PEventTells
open Go.RowKit Go.Proofs.YtigchloekolaoaaW.PrintWords Go.Proofs.YtigchloekolaoaaW.PrintLast Go.Proofs.YtigchloekolaoaaW.PrintMore

theorem w_succ {i : Int} (h0 : 0 ≤ i) (h1 : i < 100000) : wrap64 (i + 1) = i + 1 := by unfold wrap64; omega

def tagSmall (t : S41) : Bool := decide (t.f0.size ≤ 200) && decide (t.f1.size ≤ 200)
def smallB (a0 : ByteArray) (l2 : List S39) (l4 : List S41) : Bool :=
  (l4.take 51).all tagSmall && (decide (a0.size ≤ 300) && (decide (l2.length ≤ 80) && decide (l4.length ≤ 50)))
def few13B (l : List S36) : Bool := (l.take 41).all (fun m => smallB m.f0 m.f2 m.f4) && decide (l.length ≤ 40)
def few21B (l : List S46) : Bool := (l.take 61).all (fun e => few13B e.f3) && decide (l.length ≤ 60)

theorem all_step {α : Type} (l : List α) (n i : Nat) (z : α) (p : α → Bool) (hi : i < l.length) (hn : i < n) :
    ((l.take n).drop i).all p = (p (l.getD i z) && ((l.take n).drop (i + 1)).all p) := by
  have hlt : i < (l.take n).length := by rw [List.length_take]; omega
  rw [List.drop_eq_getElem_cons hlt, List.all_cons]
  congr 2
  rw [List.getElem_take]
  simp [hi]

theorem all_end {α : Type} (l : List α) (n i : Nat) (p : α → Bool) (hi : l.length ≤ i ∨ n ≤ i) : ((l.take n).drop i).all p = true := by
  rw [List.drop_eq_nil_of_le (by rw [List.length_take]; omega)]; rfl

theorem small_loop (a0 : ByteArray) (a1 : Int) (l2 : List S39) (a3 : Int) (l4 : List S41) (a5 : Int) : ∀ (d i : Nat), i + d = 51 →
    Ev (fun k => forebaylaw10_Small.l0 k i a0 a1 l2 a3 l4 a5) (((l4.take 51).drop i).all tagSmall && (decide (a0.size ≤ 300) && (decide (l2.length ≤ 80) && decide (l4.length ≤ 50)))) := by
  intro d
  induction d with
  | zero =>
    intro i hi
    obtain rfl : i = 51 := by omega
    rw [all_end l4 51 51 tagSmall (.inr (Nat.le_refl _))]
    refine Ev.step (f := fun k => forebaylaw10_Small.j1 k ((51 : Nat) : Int) false a0 a1 l2 a3 l4 a5) (fun k => ?_) ?_
    · simp only [forebaylaw10_Small.l0]
      by_cases h : ((51 : Nat) : Int) < (l4.length : Int)
      · rw [if_pos h]; rfl
      · rw [if_neg h]
    · refine Ev.step (f := fun _ => some (true && (decide (a0.size ≤ 300) && (decide (l2.length ≤ 80) && decide (l4.length ≤ 50))))) (fun k => ?_) (Ev.now _)
      simp only [forebaylaw10_Small.j1]
      rw [if_neg (by decide)]
      by_cases h1 : a0.size ≤ 300
      · rw [if_pos (by omega)]
        by_cases h2 : l2.length ≤ 80
        · rw [if_pos (by omega)]
          simp only [h1, h2, decide_true, Bool.true_and]
          congr 1
          rw [decide_eq_decide]; omega
        · rw [if_neg (by omega)]; simp [h1, h2]
      · rw [if_neg (by omega)]; simp [h1]
  | succ d ih =>
    intro i hi
    by_cases hlt : i < l4.length
    · rw [all_step l4 51 i z41 tagSmall hlt (by omega)]
      refine Ev.step (f := fun k => forebaylaw10_Small.j1 k (i : Int) true a0 a1 l2 a3 l4 a5) (fun k => ?_) ?_
      · simp only [forebaylaw10_Small.l0]
        rw [if_pos (by omega), decide_eq_true (by omega : (i : Int) < 51)]
      · have hrd : rd_T41 l4 (i : Int) = l4.getD i z41 := by unfold rd_T41; rw [Int.toNat_natCast]
        by_cases h1 : (l4.getD i z41).f0.size ≤ 200
        · by_cases h2 : (l4.getD i z41).f1.size ≤ 200
          · refine Ev.step (f := fun k => forebaylaw10_Small.l0 k ((i + 1 : Nat) : Int) a0 a1 l2 a3 l4 a5) (fun k => ?_) ?_
            · simp only [forebaylaw10_Small.j1]
              rw [if_pos trivial, if_pos (by omega), if_pos (by omega), hrd, if_neg (by omega), if_neg (by omega), w_succ (by omega) (by omega)]
              rfl
            · have ht : tagSmall (l4.getD i z41) = true := by unfold tagSmall; simp only [h1, h2, decide_true, Bool.and_self]
              rw [ht, Bool.true_and]
              exact ih (i + 1) (by omega)
          · refine Ev.step (f := fun _ => some false) (fun k => ?_) ?_
            · simp only [forebaylaw10_Small.j1]
              rw [if_pos trivial, if_pos (by omega), if_pos (by omega), hrd, if_neg (by omega), if_pos (by omega)]
            · have ht : tagSmall (l4.getD i z41) = false := by unfold tagSmall; simp only [h2, decide_false, Bool.and_false]
              rw [ht]
              simp only [Bool.false_and]
              exact Ev.now _
        · refine Ev.step (f := fun _ => some false) (fun k => ?_) ?_
          · simp only [forebaylaw10_Small.j1]
            rw [if_pos trivial, if_pos (by omega), if_pos (by omega), hrd, if_pos (by omega)]
          · have ht : tagSmall (l4.getD i z41) = false := by unfold tagSmall; simp only [h1, decide_false, Bool.false_and]
            rw [ht]
            simp only [Bool.false_and]
            exact Ev.now _
    · rw [all_end l4 51 i tagSmall (.inl (by omega))]
      refine Ev.step (f := fun k => forebaylaw10_Small.j1 k (i : Int) false a0 a1 l2 a3 l4 a5) (fun k => ?_) ?_
      · simp only [forebaylaw10_Small.l0]
        rw [if_neg (by omega)]
      · refine Ev.step (f := fun _ => some (true && (decide (a0.size ≤ 300) && (decide (l2.length ≤ 80) && decide (l4.length ≤ 50))))) (fun k => ?_) (Ev.now _)
        simp only [forebaylaw10_Small.j1]
        rw [if_neg (by decide)]
        by_cases h1 : a0.size ≤ 300
        · rw [if_pos (by omega)]
          by_cases h2 : l2.length ≤ 80
          · rw [if_pos (by omega)]
            simp only [h1, h2, decide_true, Bool.true_and]
            congr 1
            rw [decide_eq_decide]; omega
          · rw [if_neg (by omega)]; simp [h1, h2]
        · rw [if_neg (by omega)]; simp [h1]

theorem small_ev (a0 : ByteArray) (a1 : Int) (l2 : List S39) (a3 : Int) (l4 : List S41) (a5 : Int) : Ev (fun k => forebaylaw10_Small.f k a0 a1 l2 a3 l4 a5) (smallB a0 l2 l4) :=
  small_loop a0 a1 l2 a3 l4 a5 51 0 rfl

theorem few13_loop (l : List S36) : ∀ (d i : Nat), i + d = 41 →
    Ev (fun k => forebaylaw13_Few.l0 k l i) (((l.take 41).drop i).all (fun m => smallB m.f0 m.f2 m.f4) && decide (l.length ≤ 40)) := by
  have fin : ∀ i : Nat, Ev (fun k => forebaylaw13_Few.j1 k l (i : Int) false) (true && decide (l.length ≤ 40)) := by
    intro i
    refine Ev.step (f := fun _ => some (true && decide (l.length ≤ 40))) (fun k => ?_) (Ev.now _)
    simp only [forebaylaw13_Few.j1]
    rw [if_neg (by decide), Bool.true_and]
    congr 1
    rw [decide_eq_decide]; omega
  intro d
  induction d with
  | zero =>
    intro i hi
    obtain rfl : i = 41 := by omega
    rw [all_end l 41 41 _ (.inr (Nat.le_refl _))]
    refine Ev.step (f := fun k => forebaylaw13_Few.j1 k l ((41 : Nat) : Int) false) (fun k => ?_) (fin 41)
    simp only [forebaylaw13_Few.l0]
    by_cases h : ((41 : Nat) : Int) < (l.length : Int)
    · rw [if_pos h]; rfl
    · rw [if_neg h]
  | succ d ih =>
    intro i hi
    by_cases hlt : i < l.length
    · rw [all_step l 41 i z36 _ hlt (by omega)]
      refine Ev.step (f := fun k => forebaylaw13_Few.j1 k l (i : Int) true) (fun k => ?_) ?_
      · simp only [forebaylaw13_Few.l0]
        rw [if_pos (by omega), decide_eq_true (by omega : (i : Int) < 41)]
      · have hrd : rd_T36 l (i : Int) = l.getD i z36 := by unfold rd_T36; rw [Int.toNat_natCast]
        refine Ev.step (f := fun k => (forebaylaw10_Small.f k (l.getD i z36).f0 (l.getD i z36).f1 (l.getD i z36).f2 (l.getD i z36).f3 (l.getD i z36).f4 (l.getD i z36).f5).bind fun t => if t = true then forebaylaw13_Few.l0 k l ((i + 1 : Nat) : Int) else some false) (fun k => ?_) ?_
        · simp only [forebaylaw13_Few.j1]
          rw [if_pos trivial, if_pos (by omega), if_pos (by omega), hrd, w_succ (by omega) (by omega)]
          rfl
        · refine Ev.bind (small_ev _ _ _ _ _ _) ?_
          cases hb : smallB (l.getD i z36).f0 (l.getD i z36).f2 (l.getD i z36).f4 with
          | true =>
            simp only [if_true, Bool.true_and]
            exact ih (i + 1) (by omega)
          | false =>
            simp only [Bool.false_eq_true, if_false, Bool.false_and]
            exact Ev.now _
    · rw [all_end l 41 i _ (.inl (by omega))]
      refine Ev.step (f := fun k => forebaylaw13_Few.j1 k l (i : Int) false) (fun k => ?_) (fin i)
      simp only [forebaylaw13_Few.l0]
      rw [if_neg (by omega)]

theorem few13_ev (l : List S36) : Ev (fun k => forebaylaw13_Few.f k l) (few13B l) := few13_loop l 41 0 rfl

theorem few21_loop (l : List S46) : ∀ (d i : Nat), i + d = 61 →
    Ev (fun k => forebaylaw21_Few.l0 k l i) (((l.take 61).drop i).all (fun e => few13B e.f3) && decide (l.length ≤ 60)) := by
  have fin : ∀ i : Nat, Ev (fun k => forebaylaw21_Few.j1 k l (i : Int) false) (true && decide (l.length ≤ 60)) := by
    intro i
    refine Ev.step (f := fun _ => some (true && decide (l.length ≤ 60))) (fun k => ?_) (Ev.now _)
    simp only [forebaylaw21_Few.j1]
    rw [if_neg (by decide), Bool.true_and]
    congr 1
    rw [decide_eq_decide]; omega
  intro d
  induction d with
  | zero =>
    intro i hi
    obtain rfl : i = 61 := by omega
    rw [all_end l 61 61 _ (.inr (Nat.le_refl _))]
    refine Ev.step (f := fun k => forebaylaw21_Few.j1 k l ((61 : Nat) : Int) false) (fun k => ?_) (fin 61)
    simp only [forebaylaw21_Few.l0]
    by_cases h : ((61 : Nat) : Int) < (l.length : Int)
    · rw [if_pos h]; rfl
    · rw [if_neg h]
  | succ d ih =>
    intro i hi
    by_cases hlt : i < l.length
    · rw [all_step l 61 i z46 _ hlt (by omega)]
      refine Ev.step (f := fun k => forebaylaw21_Few.j1 k l (i : Int) true) (fun k => ?_) ?_
      · simp only [forebaylaw21_Few.l0]
        rw [if_pos (by omega), decide_eq_true (by omega : (i : Int) < 61)]
      · have hrd : rd_T46 l (i : Int) = l.getD i z46 := by unfold rd_T46; rw [Int.toNat_natCast]
        refine Ev.step (f := fun k => (forebaylaw13_Few.f k (l.getD i z46).f3).bind fun t => if t = true then forebaylaw21_Few.l0 k l ((i + 1 : Nat) : Int) else some false) (fun k => ?_) ?_
        · simp only [forebaylaw21_Few.j1]
          rw [if_pos trivial, if_pos (by omega), if_pos (by omega), hrd, w_succ (by omega) (by omega)]
          rfl
        · refine Ev.bind (few13_ev _) ?_
          cases hb : few13B (l.getD i z46).f3 with
          | true =>
            simp only [if_true, Bool.true_and]
            exact ih (i + 1) (by omega)
          | false =>
            simp only [Bool.false_eq_true, if_false, Bool.false_and]
            exact Ev.now _
    · rw [all_end l 61 i _ (.inl (by omega))]
      refine Ev.step (f := fun k => forebaylaw21_Few.j1 k l (i : Int) false) (fun k => ?_) (fin i)
      simp only [forebaylaw21_Few.l0]
      rw [if_neg (by omega)]

theorem few21_ev (l : List S46) : Ev (fun k => forebaylaw21_Few.f k l) (few21B l) := few21_loop l 61 0 rfl

theorem awake_ev : Ev (fun k => forebaylaw21_awake.f k) true := Ev.of forebaylaw21_awake.mono (k := 10) (by decide +kernel)
end Go.Proofs.Ytigchloekolaoaa.PEventTells

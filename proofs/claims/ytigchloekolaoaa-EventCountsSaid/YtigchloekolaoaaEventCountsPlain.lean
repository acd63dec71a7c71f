/-
  The plain law of EventCounts: what the printed law computes is true.
-/
import Derived.Test.YtigchloekolaoaaEventCountsCnt
namespace Go.Proofs.Ytigchloekolaoaa.PEventCounts
open Go.RowKit Go.Proofs.YtigchloekolaoaaW.PrintWords Go.Proofs.YtigchloekolaoaaW.PrintLast Go.Proofs.YtigchloekolaoaaW.PrintMore

abbrev C3 := Int × Int × Int
def sumStep (kind : Int) (c : C3) (e : S46) : C3 :=
  if e.f0 = kind then (wrap64 (c.1 + 1), wrap64 (c.2.1 + (e.f3.length : Int)), wrap64 (wrap64 (c.2.2 + e.f2) - e.f1)) else c

theorem sum_loop (l : List S46) (kind : Int) (hl : l.length ≤ 1000) : ∀ (d i : Nat) (c : C3), i + d = l.length →
    Ev (fun k => forebayref21_Sum.l0 k l kind c.1 c.2.1 c.2.2 i) ((l.drop i).foldl (sumStep kind) c) := by
  intro d
  induction d with
  | zero =>
    intro i c hi
    rw [List.drop_eq_nil_of_le (by omega)]
    refine Ev.step (f := fun _ => some c) (fun k => ?_) (Ev.now _)
    simp only [forebayref21_Sum.l0]
    rw [if_neg (by omega)]
  | succ d ih =>
    intro i c hi
    have hlt : i < l.length := by omega
    have hrd : rd_T46 l (i : Int) = l.getD i z46 := by unfold rd_T46; rw [Int.toNat_natCast]
    rw [drop_step l i z46 hlt]
    refine Ev.step (fun k => ?_) (ih (i + 1) (sumStep kind c (l.getD i z46)) (by omega))
    simp only [forebayref21_Sum.l0]
    rw [if_pos (by omega), if_pos (by omega), hrd, w_succ (i := (i : Int)) (by omega) (by omega)]
    unfold sumStep
    by_cases h : (l.getD i z46).f0 = kind
    · rw [if_pos h, if_pos h]; rfl
    · rw [if_neg h, if_neg h]; rfl

theorem sum_ev (l : List S46) (kind : Int) (hl : l.length ≤ 1000) : Ev (fun k => forebayref21_Sum.f k l kind) (l.foldl (sumStep kind) (0, 0, 0)) :=
  sum_loop l kind hl l.length 0 (0, 0, 0) (by omega)

def Norm (x : Int) : Prop := wrap64 x = x
theorem norm_wrap (x : Int) : Norm (wrap64 x) := by unfold Norm wrap64; omega
theorem norm0 : Norm 0 := by unfold Norm wrap64; omega
theorem wrap_zero {x : Int} (h : Norm x) : wrap64 (x + 0) = x := by rw [Int.add_zero]; exact h
theorem wrap_sub (b t f : Int) : wrap64 (b + wrap64 (t - f)) = wrap64 (wrap64 (b + t) - f) := by unfold wrap64; omega

theorem cnt_sums : ∀ (l : List S46) (a : C3) (b : C3) (c : C3), Norm a.1 → Norm a.2.1 → Norm a.2.2 → Norm b.1 → Norm b.2.2 → Norm c.1 → Norm c.2.2 →
    cnt l (a.1, a.2.1, a.2.2, b.1, b.2.2, c.1, c.2.2) =
      ((l.foldl (sumStep 1) a).1, (l.foldl (sumStep 1) a).2.1, (l.foldl (sumStep 1) a).2.2, (l.foldl (sumStep 2) b).1, (l.foldl (sumStep 2) b).2.2, (l.foldl (sumStep 3) c).1, (l.foldl (sumStep 3) c).2.2)
  | [], _, _, _, _, _, _, _, _, _, _ => rfl
  | e :: l, a, b, c, a1, a2, a3, b1, b3, c1, c3 => by
    have key : add7 (a.1, a.2.1, a.2.2, b.1, b.2.2, c.1, c.2.2) (one7 e) =
        ((sumStep 1 a e).1, (sumStep 1 a e).2.1, (sumStep 1 a e).2.2, (sumStep 2 b e).1, (sumStep 2 b e).2.2, (sumStep 3 c e).1, (sumStep 3 c e).2.2) := by
      unfold add7 one7 sumStep
      by_cases h1 : e.f0 = 1
      · simp only [h1, if_true, show ¬ (1 : Int) = 2 from by decide, show ¬ (1 : Int) = 3 from by decide, if_false, wrap_zero b1, wrap_zero b3, wrap_zero c1, wrap_zero c3, wrap_sub]
      · by_cases h2 : e.f0 = 2
        · simp only [h2, if_true, show ¬ (2 : Int) = 1 from by decide, show ¬ (2 : Int) = 3 from by decide, if_false, wrap_zero a1, wrap_zero a2, wrap_zero a3, wrap_zero c1, wrap_zero c3, wrap_sub]
        · by_cases h3 : e.f0 = 3
          · simp only [h3, if_true, show ¬ (3 : Int) = 1 from by decide, show ¬ (3 : Int) = 2 from by decide, if_false, wrap_zero a1, wrap_zero a2, wrap_zero a3, wrap_zero b1, wrap_zero b3, wrap_sub]
          · simp only [h1, h2, h3, if_false, wrap_zero a1, wrap_zero a2, wrap_zero a3, wrap_zero b1, wrap_zero b3, wrap_zero c1, wrap_zero c3]
    have nA : Norm (sumStep 1 a e).1 ∧ Norm (sumStep 1 a e).2.1 ∧ Norm (sumStep 1 a e).2.2 := by
      unfold sumStep; split
      · exact ⟨norm_wrap _, norm_wrap _, norm_wrap _⟩
      · exact ⟨a1, a2, a3⟩
    have nB : Norm (sumStep 2 b e).1 ∧ Norm (sumStep 2 b e).2.2 := by
      unfold sumStep; split
      · exact ⟨norm_wrap _, norm_wrap _⟩
      · exact ⟨b1, b3⟩
    have nC : Norm (sumStep 3 c e).1 ∧ Norm (sumStep 3 c e).2.2 := by
      unfold sumStep; split
      · exact ⟨norm_wrap _, norm_wrap _⟩
      · exact ⟨c1, c3⟩
    have ih := cnt_sums l (sumStep 1 a e) (sumStep 2 b e) (sumStep 3 c e) nA.1 nA.2.1 nA.2.2 nB.1 nB.2 nC.1 nC.2
    show cnt l (add7 _ (one7 e)) = _
    rw [key, ih]
    rfl

theorem count_ref (l : List S46) (hl : l.length ≤ 1000) : Ev (fun k => forebaylaw21_count.f k l) (cnt l zero7) := by
  have h := cnt_sums l (0, 0, 0) (0, 0, 0) (0, 0, 0) norm0 norm0 norm0 norm0 norm0 norm0 norm0
  have e : cnt l zero7 = cnt l (0, 0, 0, 0, 0, 0, 0) := rfl
  rw [e, h]
  unfold forebaylaw21_count.f
  exact Ev.bind (sum_ev l 1 hl) (Ev.bind (sum_ev l 2 hl) (Ev.bind (sum_ev l 3 hl) (Ev.now _)))

theorem eventCounts_ev (l : List S46) (a b : C7) : Ev (fun k => forebaylaw21_EventCounts.f k l a.1 a.2.1 a.2.2.1 a.2.2.2.1 a.2.2.2.2.1 a.2.2.2.2.2.1 a.2.2.2.2.2.2 b.1 b.2.1 b.2.2.1 b.2.2.2.1 b.2.2.2.2.1 b.2.2.2.2.2.1 b.2.2.2.2.2.2) true := by
  unfold forebaylaw21_EventCounts.f
  refine Ev.bind (few21_ev l) ?_
  cases hb : few21B l with
  | false =>
    simp only [Bool.false_eq_true, if_false]
    exact Ev.bind awake_ev (Ev.now _)
  | true =>
    have hl : l.length ≤ 1000 := by
      unfold few21B at hb
      simp only [Bool.and_eq_true, decide_eq_true_eq] at hb
      omega
    simp only [if_true]
    refine Ev.bind (count_ev l hl) (Ev.bind (count_ref l hl) ?_)
    simp only [beq_self_eq_true, Bool.and_self, if_true]
    refine Ev.bind (a := add7 a b) (Ev.now _) ?_
    unfold add7
    simp only [beq_self_eq_true, Bool.and_self, if_true]
    exact Ev.bind awake_ev (Ev.now _)
end Go.Proofs.Ytigchloekolaoaa.PEventCounts

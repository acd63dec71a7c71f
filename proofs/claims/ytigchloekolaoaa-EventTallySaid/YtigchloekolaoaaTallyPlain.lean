/-
  Counts in parts are the counts of the whole.
-/
import Derived.Test.YtigchloekolaoaaEventTallyCnt
namespace Go.Proofs.Ytigchloekolaoaa.PEventTally
open Go.RowKit Go.Proofs.YtigchloekolaoaaW.PrintWords Go.Proofs.YtigchloekolaoaaW.PrintLast Go.Proofs.YtigchloekolaoaaW.PrintMore

theorem wrap_assoc (a b c : Int) : wrap64 (wrap64 (a + b) + c) = wrap64 (a + wrap64 (b + c)) := by unfold wrap64; omega
theorem wrap_twice (a b : Int) : wrap64 (wrap64 (a + b) + 0) = wrap64 (a + b) := by unfold wrap64; omega
theorem wrap_front (a b : Int) : wrap64 (0 + wrap64 (a + b)) = wrap64 (a + b) := by unfold wrap64; omega

theorem add7_assoc (a b c : C7) : add7 (add7 a b) c = add7 a (add7 b c) := by
  unfold add7; simp only [wrap_assoc]
theorem add7_zero (a b : C7) : add7 (add7 a b) zero7 = add7 a b := by
  unfold add7 zero7; simp only [wrap_twice]
theorem zero_add7 (a b : C7) : add7 zero7 (add7 a b) = add7 a b := by
  unfold add7 zero7; simp only [wrap_front]

theorem cnt_from : ∀ (l : List S46) (a b : C7), cnt l (add7 a b) = add7 (add7 a b) (cnt l zero7)
  | [], a, b => (add7_zero a b).symm
  | e :: l, a, b => by
    show cnt l (add7 (add7 a b) (one7 e)) = add7 (add7 a b) (cnt l (add7 zero7 (one7 e)))
    rw [cnt_from l (add7 a b) (one7 e), cnt_from l zero7 (one7 e)]
    rw [add7_assoc (add7 a b) (one7 e), add7_assoc zero7 (one7 e)]
    cases l with
    | nil =>
      show add7 (add7 a b) (add7 (one7 e) zero7) = add7 (add7 a b) (add7 zero7 (add7 (one7 e) zero7))
      rw [zero_add7]
    | cons x t => rw [zero_add7]

theorem cnt_append (a b : List S46) : cnt (a ++ b) zero7 = add7 (cnt a zero7) (cnt b zero7) := by
  show (a ++ b).foldl _ _ = _
  rw [List.foldl_append]
  show cnt b (cnt a zero7) = _
  rcases List.eq_nil_or_concat a with rfl | ⟨t, x, rfl⟩
  · show cnt b zero7 = add7 zero7 (cnt b zero7)
    rcases List.eq_nil_or_concat b with rfl | ⟨t, x, rfl⟩
    · show zero7 = add7 zero7 zero7
      decide +kernel
    · have : cnt (t ++ [x]) zero7 = add7 (cnt t zero7) (one7 x) := by
        show (t ++ [x]).foldl _ _ = _
        rw [List.foldl_append]; rfl
      rw [List.concat_eq_append, this, zero_add7]
  · have : cnt (t ++ [x]) zero7 = add7 (cnt t zero7) (one7 x) := by
      show (t ++ [x]).foldl _ _ = _
      rw [List.foldl_append]; rfl
    rw [List.concat_eq_append, this, cnt_from]

theorem cnt_part (l : List S46) (p n : Nat) : add7 (cnt (l.take p) zero7) (cnt ((l.drop p).take n) zero7) = cnt (l.take (p + n)) zero7 := by
  rw [List.take_add, cnt_append]

theorem few_short (l : List S46) (h : few21B l = true) : l.length ≤ 60 := by
  unfold few21B at h
  simp only [Bool.and_eq_true, decide_eq_true_eq] at h
  exact h.2
end Go.Proofs.Ytigchloekolaoaa.PEventTally

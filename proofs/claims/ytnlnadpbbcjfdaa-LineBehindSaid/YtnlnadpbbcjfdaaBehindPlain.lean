/-
  What stands behind a line is as if that had not been: in plain words.
-/
import Derived.Test.YtnlnadpbbcjfdaaWhole
namespace Go.Proofs.Ytnlnadpbbcjfdaa

/-- A line, so many bytes later. -/
def LV.later (k : Nat) (x : LV) : LV := ⟨x.a + k, x.b + k, x.t, x.long⟩

theorem mkLine_later (m f k : Nat) (cur : List Int) (j : Nat) : mkLine m (f + k) cur j = (mkLine m f cur j).later k := by
  unfold mkLine LV.later
  split
  · simp only [LV.mk.injEq, and_true, true_and]; omega
  · simp only [LV.mk.injEq, and_true, true_and]; omega

theorem lin_later (m k : Nat) : ∀ (l : List Int) (f : Nat) (cur : List Int), lin m (f + k) cur l = (lin m f cur l).map (LV.later k)
  | [], _, _ => rfl
  | z :: l, f, cur => by
    rw [lin_cons, lin_cons]
    split
    · rw [List.map_cons, mkLine_later, ← lin_later m k l (f + cur.length + 1) []]
      congr 2
      omega
    · exact lin_later m k l f (cur ++ [z])
theorem fin_later (k : Nat) : ∀ (l : List Int) (f : Nat) (cur : List Int), fin (f + k) cur l = ((fin f cur l).1 + k, (fin f cur l).2)
  | [], _, _ => rfl
  | z :: l, f, cur => by
    rw [fin_cons, fin_cons]
    split
    · rw [← fin_later k l (f + cur.length + 1) []]
      congr 1
      omega
    · exact fin_later k l f (cur ++ [z])

/-- Bytes that end with a line feed leave nothing. -/
theorem fin_feed (l : List Int) (f : Nat) (cur : List Int) : fin f cur (l ++ [10]) = (f + cur.length + l.length + 1, []) := by
  have h := fin_size l f cur
  rw [fin_append, fin_cons, if_pos rfl, fin_nil, Prod.mk.injEq]
  exact ⟨by omega, rfl⟩

theorem allLines_feed (m : Nat) (l : List Int) : allLines m (l ++ [10]) = lin m 0 [] (l ++ [10]) := by
  unfold allLines
  rw [fin_feed, if_pos rfl, List.append_nil]

theorem lin_feed_pos (m : Nat) (l : List Int) (f : Nat) (cur : List Int) : 0 < (lin m f cur (l ++ [10])).length := by
  rw [lin_append, lin_cons, if_pos rfl, List.length_append, List.length_cons]
  omega

/-- The lines of both streams. -/
theorem allLines_behind (m : Nat) (l t : List Int) : allLines m ((l ++ [10]) ++ t) = allLines m (l ++ [10]) ++ (allLines m t).map (LV.later (l.length + 1)) := by
  have hf := fin_feed l 0 []
  have h0 : 0 + ([] : List Int).length + l.length + 1 = 0 + (l.length + 1) := by simp
  rw [h0] at hf
  rw [allLines_feed]
  unfold allLines
  rw [lin_append m (l ++ [10]) t, fin_append (l ++ [10]) t, hf]
  simp only
  rw [lin_later m (l.length + 1) t 0 [], fin_later (l.length + 1) t 0 []]
  simp only
  by_cases hc : (fin 0 [] t).2 = []
  · rw [if_pos hc, if_pos hc]; simp
  · rw [if_neg hc, if_neg hc, mkLine_later]; simp
end Go.Proofs.Ytnlnadpbbcjfdaa

/-
  What a call does behind a fault, and that no call goes back.
-/
import Derived.Test.YtiikppiogglppaaDoes
namespace Go.Proofs.Ytiikppiogglppaa
open Go.RowKit

theorem does_stuck {s : CS} (l : List Int) (d n k : Int) (h : s.code ≠ 0) : (s.does l d n k).2.2 = s := by
  unfold CS.does CS.take CS.until CS.fail
  simp only [if_neg h]
  repeat (first | rfl | split)

theorem does_stuck0 {s : CS} (l : List Int) (n k : Int) (h : s.code ≠ 0) : s.does l 0 n k = ([0], true, s) := by
  unfold CS.does CS.byte CS.take
  rw [if_pos rfl, if_neg h]
  rfl
theorem does_stuck1 {s : CS} (l : List Int) (n k : Int) (h : s.code ≠ 0) : s.does l 1 n k = ([0], false, s) := by
  unfold CS.does CS.peek
  rw [if_neg (by decide), if_pos rfl, if_neg (fun e => h e.1)]
theorem does_stuck2 {s : CS} (l : List Int) (n k : Int) (h : s.code ≠ 0) : s.does l 2 n k = ([], true, s) := by
  unfold CS.does CS.take
  rw [if_neg (by decide), if_neg (by decide), if_pos rfl, if_neg h]
theorem does_stuck3 {s : CS} (l : List Int) (n k : Int) (h : s.code ≠ 0) : s.does l 3 n k = ([], false, s) := by
  unfold CS.does CS.until
  rw [if_neg (by decide), if_neg (by decide), if_neg (by decide), if_pos rfl, if_neg h]

theorem fail_n (s : CS) (c a : Int) : (s.fail c a).n = s.n := by
  unfold CS.fail
  split
  · split <;> rfl
  · rfl

theorem does_mono {s : CS} {l : List Int} (h : s.fits l) (d n k : Int) : s.n ≤ (s.does l d n k).2.2.n := by
  have ht : ∀ m : Int, s.n ≤ (s.take l m).2.n := by
    intro m
    unfold CS.take
    split
    · split
      · rw [fail_n]; exact Nat.le_refl _
      · split
        · rw [fail_n]; exact Nat.le_refl _
        · exact Nat.le_add_right _ _
    · exact Nat.le_refl _
  have h1 := h.1
  unfold CS.does
  split
  · exact ht 1
  · split
    · exact Nat.le_refl _
    · split
      · exact ht n
      · split
        · unfold CS.until
          split
          · split
            · exact Nat.le_trans (Nat.le_add_right _ _) (Nat.le_add_right _ _)
            · exact h1
          · exact Nat.le_refl _
        · split
          · rw [fail_n]; exact Nat.le_refl _
          · exact Nat.le_refl _

theorem fail_stays {s : CS} (c a : Int) (h : s.code ≠ 0) : (s.fail c a).code ≠ 0 := by
  unfold CS.fail
  rw [if_neg h]
  exact h
theorem fail_notes (s : CS) (c a : Int) (h : c ≠ 0) : (s.fail c a).code ≠ 0 := by
  unfold CS.fail
  split
  · exact h
  · assumption
end Go.Proofs.Ytiikppiogglppaa

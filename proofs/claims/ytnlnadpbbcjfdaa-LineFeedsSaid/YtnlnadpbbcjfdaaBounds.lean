/-
  Where lines may lie: in plain words.
-/
import Derived.Test.YtnlnadpbbcjfdaaWhole
namespace Go.Proofs.Ytnlnadpbbcjfdaa

theorem mkLine_ab (m f : Nat) (cur : List Int) (j : Nat) : (mkLine m f cur j).a = f ∧ (mkLine m f cur j).b = f + cur.length + j := by
  unfold mkLine
  split <;> exact ⟨rfl, rfl⟩

theorem lin_bound (m : Nat) : ∀ (l : List Int) (f : Nat) (cur : List Int) (x : LV), x ∈ lin m f cur l → f ≤ x.a ∧ x.a ≤ x.b ∧ x.b ≤ f + cur.length + l.length
  | [], _, _, _, h => by rw [lin_nil] at h; cases h
  | z :: l, f, cur, x, h => by
    rw [lin_cons] at h
    rw [List.length_cons]
    split at h
    · rcases List.mem_cons.1 h with rfl | h
      · obtain ⟨h1, h2⟩ := mkLine_ab m f cur 1
        omega
      · have := lin_bound m l _ _ x h
        simp only [List.length_nil] at this
        omega
    · have := lin_bound m l _ _ x h
      simp only [List.length_append, List.length_cons, List.length_nil] at this
      omega

theorem all_bound {m : Nat} {l : List Int} {x : LV} (h : x ∈ allLines m l) : x.a ≤ x.b ∧ x.b ≤ l.length := by
  unfold allLines at h
  rcases List.mem_append.1 h with h | h
  · have := lin_bound m l 0 [] x h
    simp only [List.length_nil] at this
    omega
  · split at h
    · cases h
    · rcases List.mem_cons.1 h with rfl | h
      · obtain ⟨h1, h2⟩ := mkLine_ab m (fin 0 [] l).1 (fin 0 [] l).2 0
        have := fin_size l 0 []
        simp only [List.length_nil] at this
        omega
      · cases h
end Go.Proofs.Ytnlnadpbbcjfdaa

/-
  Each byte is in just one line: in plain words.
-/
import Derived.Test.YtnlnadpbbcjfdaaBounds
namespace Go.Proofs.Ytnlnadpbbcjfdaa

/-- What one line of the bytes b says of itself: it begins at 'at_', has n bytes, and a line feed behind them, or not. -/
structure Covs (m : Nat) (b : List Int) (at_ : Nat) (x : LV) (n : Nat) (feed : Bool) : Prop where
  from_ : x.a = at_
  to_ : x.b = at_ + n + (if feed then 1 else 0)
  pos : at_ < x.b
  le : x.b ≤ b.length
  ends : feed = decide (b.getD (x.b - 1) 0 = 10)
  free : ∀ k, at_ ≤ k → k < at_ + n → b.getD k 0 ≠ 10
  long : x.long = decide (m < n)
  text : x.t = if m < n then [] else (b.drop at_).take n

/-- These lines are all of b from 'at_' on, in order. -/
def Cov (m : Nat) (b : List Int) : Nat → List LV → Prop
  | at_, [] => at_ = b.length
  | at_, x :: xs => (∃ n feed, Covs m b at_ x n feed ∧ (feed = false → xs = [])) ∧ Cov m b x.b xs

theorem getD_mid (p cur q : List Int) (k : Nat) (h1 : p.length ≤ k) (h2 : k < p.length + cur.length) : (p ++ cur ++ q).getD k 0 ∈ cur := by
  have hk : k - p.length < cur.length := by omega
  rw [List.getD_eq_getElem?_getD, List.append_assoc, List.getElem?_append_right h1, List.getElem?_append_left hk, List.getElem?_eq_getElem hk]
  exact List.getElem_mem hk

theorem cov_lin (m : Nat) : ∀ (l p cur : List Int), (∀ z ∈ cur, z ≠ 10) →
    Cov m (p ++ cur ++ l) p.length (lin m p.length cur l ++ if (fin p.length cur l).2 = [] then [] else [mkLine m (fin p.length cur l).1 (fin p.length cur l).2 0])
  | [], p, cur, h => by
    rw [lin_nil, fin_nil, List.nil_append, List.append_nil]
    dsimp only
    by_cases hc : cur = []
    · rw [if_pos hc, hc, List.append_nil]
      rfl
    · rw [if_neg hc]
      have hl : 0 < cur.length := List.length_pos_iff.2 hc
      obtain ⟨ha, hb⟩ := mkLine_ab m p.length cur 0
      have hlen : (p ++ cur).length = p.length + cur.length := List.length_append
      have hmid := fun k h1 h2 => getD_mid p cur [] k h1 h2
      rw [List.append_nil] at hmid
      refine ⟨⟨cur.length, false, ⟨ha, by rw [hb]; simp, by omega, by omega, ?_, fun k h1 h2 => h _ (hmid k h1 h2), ?_, ?_⟩, fun _ => rfl⟩, by show _ = _; omega⟩
      · rw [eq_comm, decide_eq_false_iff_not]
        exact h _ (hmid _ (by omega) (by omega))
      · unfold mkLine
        split <;> rename_i h1 <;> simp [h1]
      · unfold mkLine
        split <;> rename_i h1 <;> simp
  | z :: l, p, cur, h => by
    rw [lin_cons, fin_cons]
    by_cases hz : z = 10
    · subst hz
      rw [if_pos rfl, if_pos rfl]
      have ih := cov_lin m l (p ++ cur ++ [10]) [] (by intro z hz; cases hz)
      have hlen : (p ++ cur ++ [10]).length = p.length + cur.length + 1 := by simp; omega
      rw [hlen] at ih
      rw [List.cons_append]
      obtain ⟨ha, hb⟩ := mkLine_ab m p.length cur 1
      have hall : (p ++ cur ++ 10 :: l) = p ++ cur ++ [10] ++ [] ++ l := by simp
      have hat : (p ++ cur ++ 10 :: l).getD (p.length + cur.length) 0 = 10 := by
        rw [List.getD_eq_getElem?_getD, List.getElem?_append_right (by simp)]
        simp
      have hL : (p ++ cur ++ 10 :: l).length = p.length + cur.length + 1 + l.length := by simp; omega
      refine ⟨⟨cur.length, true, ⟨ha, by rw [hb]; simp, by omega, by omega, ?_, fun k h1 h2 => h _ (getD_mid p cur _ k h1 h2), ?_, ?_⟩, fun h => by cases h⟩, ?_⟩
      · rw [eq_comm, decide_eq_true_iff, hb]
        exact hat
      · unfold mkLine
        split <;> rename_i h1 <;> simp [h1]
      · unfold mkLine
        split <;> rename_i h1 <;> simp
      · rw [hb, hall]
        exact ih
    · rw [if_neg hz, if_neg hz]
      have ih := cov_lin m l p (cur ++ [z]) (by
        intro u hu
        rcases List.mem_append.1 hu with hu | hu
        · exact h u hu
        · rw [List.mem_singleton] at hu; rw [hu]; exact hz)
      have hall : p ++ cur ++ z :: l = p ++ (cur ++ [z]) ++ l := by simp
      rw [hall]
      exact ih

/-- All lines of the bytes. -/
theorem cov_all (m : Nat) (l : List Int) : Cov m l 0 (allLines m l) := cov_lin m l [] [] (by intro z hz; cases hz)
end Go.Proofs.Ytnlnadpbbcjfdaa

/-
  Lines of a stream, in plain words: byte by byte, and that they do not hang on how the stream is cut.
-/
import Derived.Test.YtnlnadpbbcjfdaaCut
namespace Go.Proofs.Ytnlnadpbbcjfdaa

/-- A line: which bytes it has, its text, or that it was too long. -/
structure LV where
  a : Nat
  b : Nat
  t : List Int
  long : Bool

/-- What is open, from a place on, as a line that ends with so many bytes behind it. -/
def mkLine (m : Nat) (fr : Nat) (cur : List Int) (k : Nat) : LV :=
  if m < cur.length then ⟨fr, fr + cur.length + k, [], true⟩ else ⟨fr, fr + cur.length + k, cur, false⟩

/-- The lines that bytes end, where so much is open. -/
def lin (m : Nat) : Nat → List Int → List Int → List LV
  | _, _, [] => []
  | fr, cur, z :: l => if z = 10 then mkLine m fr cur 1 :: lin m (fr + cur.length + 1) [] l else lin m fr (cur ++ [z]) l

/-- What is open behind them. -/
def fin : Nat → List Int → List Int → Nat × List Int
  | fr, cur, [] => (fr, cur)
  | fr, cur, z :: l => if z = 10 then fin (fr + cur.length + 1) [] l else fin fr (cur ++ [z]) l

theorem lin_nil (m fr : Nat) (cur : List Int) : lin m fr cur [] = [] := rfl
theorem lin_cons (m fr : Nat) (cur : List Int) (z : Int) (l : List Int) : lin m fr cur (z :: l) = if z = 10 then mkLine m fr cur 1 :: lin m (fr + cur.length + 1) [] l else lin m fr (cur ++ [z]) l := rfl
theorem fin_nil (fr : Nat) (cur : List Int) : fin fr cur [] = (fr, cur) := rfl
theorem fin_cons (fr : Nat) (cur : List Int) (z : Int) (l : List Int) : fin fr cur (z :: l) = if z = 10 then fin (fr + cur.length + 1) [] l else fin fr (cur ++ [z]) l := rfl

theorem lin_append (m : Nat) : ∀ (l l2 : List Int) (fr : Nat) (cur : List Int), lin m fr cur (l ++ l2) = lin m fr cur l ++ lin m (fin fr cur l).1 (fin fr cur l).2 l2
  | [], _, _, _ => rfl
  | z :: l, l2, fr, cur => by
    rw [List.cons_append, lin_cons, lin_cons, fin_cons]
    split
    · rw [lin_append m l l2, List.cons_append]
    · exact lin_append m l l2 _ _
theorem fin_append : ∀ (l l2 : List Int) (fr : Nat) (cur : List Int), fin fr cur (l ++ l2) = fin (fin fr cur l).1 (fin fr cur l).2 l2
  | [], _, _, _ => rfl
  | z :: l, l2, fr, cur => by
    rw [List.cons_append, fin_cons, fin_cons]
    split
    · exact fin_append l l2 _ _
    · exact fin_append l l2 _ _

/-- All bytes are in lines, or open. -/
theorem fin_size : ∀ (l : List Int) (fr : Nat) (cur : List Int), (fin fr cur l).1 + (fin fr cur l).2.length = fr + cur.length + l.length
  | [], _, _ => rfl
  | z :: l, fr, cur => by
    rw [fin_cons]
    split
    · rw [fin_size l]; simp; omega
    · rw [fin_size l]; simp; omega

/-- Bytes without a line feed. -/
theorem lin_free (m : Nat) : ∀ (l : List Int) (fr : Nat) (cur : List Int), (∀ z ∈ l, z ≠ 10) → lin m fr cur l = [] ∧ fin fr cur l = (fr, cur ++ l)
  | [], fr, cur, _ => ⟨rfl, by simp [fin]⟩
  | z :: l, fr, cur, h => by
    rw [lin_cons, fin_cons, if_neg (h z (by simp)), if_neg (h z (by simp))]
    have := lin_free m l fr (cur ++ [z]) (fun x hx => h x (by simp [hx]))
    rw [this.1, this.2]
    exact ⟨rfl, by simp⟩
/-- A piece that ends with one. -/
theorem lin_piece (m : Nat) (t l : List Int) (fr : Nat) (cur : List Int) (h : ∀ z ∈ t, z ≠ 10) :
    lin m fr cur (t ++ 10 :: l) = mkLine m fr (cur ++ t) 1 :: lin m (fr + (cur ++ t).length + 1) [] l ∧ fin fr cur (t ++ 10 :: l) = fin (fr + (cur ++ t).length + 1) [] l := by
  have hf := lin_free m t fr cur h
  rw [lin_append, fin_append, hf.1, hf.2, lin_cons, fin_cons, if_pos rfl, if_pos rfl]
  exact ⟨rfl, rfl⟩

theorem pos_split {l : List Int} {i : Nat} (h : pos 10 l = some i) : l = l.take i ++ 10 :: l.drop (i + 1) ∧ ∀ z ∈ l.take i, z ≠ 10 := by
  induction l generalizing i with
  | nil => cases h
  | cons z l ih =>
    unfold pos at h
    split at h
    · rename_i hz; cases h; subst hz; simp
    · rename_i hz
      cases hp : pos 10 l with
      | none => rw [hp] at h; cases h
      | some j =>
        rw [hp] at h
        cases h
        obtain ⟨h1, h2⟩ := ih hp
        refine ⟨by simpa using h1, fun x hx => ?_⟩
        simp only [List.take_succ_cons, List.mem_cons] at hx
        rcases hx with rfl | hx
        · exact hz
        · exact h2 x hx
theorem pos_free {l : List Int} (h : pos 10 l = none) : ∀ z ∈ l, z ≠ 10 := by
  induction l with
  | nil => intro z hz; cases hz
  | cons z l ih =>
    unfold pos at h
    split at h
    · cases h
    · rename_i hz
      cases hp : pos 10 l with
      | some j => rw [hp] at h; cases h
      | none =>
        intro x hx
        rcases List.mem_cons.1 hx with rfl | hx
        · exact hz
        · exact ih hp x hx
end Go.Proofs.Ytnlnadpbbcjfdaa

/-
  Bytes that are taken in parts, in plain words; a Cur and what was gathered of it in memory.
-/
import Derived.Test.YtiikppiogglppaaPlaysWalk
namespace Go.Proofs.Ytiikppiogglppaa
open Go.RowKit

theorem at_take {l : List Int} {m : Nat} (n : Nat) (h : m + n ≤ l.length) : CS.take ⟨m, 0, 0⟩ l (n : Int) = ((l.drop m).take n, ⟨m + n, 0, 0⟩) := by
  unfold CS.take
  rw [if_pos rfl, if_neg (by omega), if_neg (by show ¬ (l.length : Int) - (m : Int) < (n : Int); omega), Int.toNat_natCast]
theorem at_byte {l : List Int} {m : Nat} (h : m < l.length) : CS.byte ⟨m, 0, 0⟩ l = l.getD m 0 := by
  unfold CS.byte
  have := at_take (l := l) (m := m) 1 (by omega)
  rw [show ((1 : Nat) : Int) = 1 from rfl] at this
  rw [this]
  simp [List.getD_eq_getElem?_getD, List.getElem?_drop]
theorem at_byte_state {l : List Int} {m : Nat} (h : m < l.length) : (CS.take ⟨m, 0, 0⟩ l 1).2 = ⟨m + 1, 0, 0⟩ := by
  have := at_take (l := l) (m := m) 1 (by omega)
  rw [show ((1 : Nat) : Int) = 1 from rfl] at this
  rw [this]
theorem at_peek {l : List Int} {m : Nat} (h : m < l.length) : CS.peek ⟨m, 0, 0⟩ l = (l.getD m 0, true) := by
  unfold CS.peek
  rw [if_pos ⟨rfl, h⟩]
theorem at_until_some {l : List Int} {m i : Nat} {e : Int} (h : pos e (l.drop m) = some i) : CS.until ⟨m, 0, 0⟩ l e = ((l.drop m).take i, true, ⟨m + i + 1, 0, 0⟩) := by
  unfold CS.until
  rw [if_pos rfl, h]
theorem at_until_none {l : List Int} {m : Nat} {e : Int} (h : pos e (l.drop m) = none) : CS.until ⟨m, 0, 0⟩ l e = (l.drop m, false, ⟨l.length, 0, 0⟩) := by
  unfold CS.until
  rw [if_pos rfl, h]

theorem take_more (l : List Int) (m n : Nat) : l.take m ++ (l.drop m).take n = l.take (m + n) := by rw [List.take_add]

theorem pos_some {e : Int} : ∀ {l : List Int} {i : Nat}, pos e l = some i → l.getD i 0 = e ∧ ∀ k, k < i → l.getD k 0 ≠ e
  | [], i, h => by cases h
  | z :: l, i, h => by
    unfold pos at h
    split at h
    · rename_i hz; cases h; exact ⟨by simpa using hz, fun k hk => by omega⟩
    · rename_i hz
      cases hp : pos e l with
      | none => rw [hp] at h; cases h
      | some j =>
        rw [hp] at h
        cases h
        have ⟨h1, h2⟩ := pos_some hp
        refine ⟨by simpa using h1, fun k hk => ?_⟩
        cases k with
        | zero => simpa using hz
        | succ k => have := h2 k (by simp at hk; omega); simpa using this
theorem pos_none {e : Int} : ∀ {l : List Int}, pos e l = none → ∀ k, k < l.length → l.getD k 0 ≠ e
  | [], _, k, hk => by simp at hk
  | z :: l, h, k, hk => by
    unfold pos at h
    split at h
    · cases h
    · rename_i hz
      cases hp : pos e l with
      | some j => rw [hp] at h; cases h
      | none =>
        cases k with
        | zero => simpa using hz
        | succ k => have := pos_none hp k (by simpa using hk); simpa using this

theorem count_free {e : Int} : ∀ {l : List Int}, (∀ k, k < l.length → l.getD k 0 ≠ e) → l.count e = 0
  | [], _ => rfl
  | z :: l, h => by
    have h0 := h 0 (by simp)
    rw [List.count_cons, count_free (l := l) (fun k hk => by have := h (k + 1) (by simp; omega); simpa using this)]
    have hz : (z == e) = false := beq_eq_false_iff_ne.2 (by simpa using h0)
    simp [hz]

theorem count_some {e : Int} {l : List Int} {m i : Nat} (h : pos e (l.drop m) = some i) : (l.take m ++ (l.drop m).take i) ++ [e] = l.take (m + i + 1) ∧ (l.take (m + i + 1)).count e = (l.take m).count e + 1 := by
  have hi := pos_lt h
  obtain ⟨h1, h2⟩ := pos_some h
  have e1 : (l.take m ++ (l.drop m).take i) ++ [e] = l.take (m + i + 1) := by
    rw [take_more, take_snoc (l := l) (k := m + i) (by rw [List.length_drop] at hi; omega)]
    congr 1
    rw [← h1]
    simp only [List.getD_eq_getElem?_getD, List.getElem?_drop]
  refine ⟨e1, ?_⟩
  rw [← e1, List.count_append, List.count_append, count_free (l := (l.drop m).take i) (fun k hk => by
    rw [List.length_take] at hk
    have := h2 k (by omega)
    rw [getD_take _ _ _ (by omega)]
    exact this)]
  simp
theorem count_none {e : Int} {l : List Int} {m : Nat} (h : pos e (l.drop m) = none) : l.count e = (l.take m).count e := by
  have h1 := count_free (pos_none h)
  have h2 : (l.take m ++ l.drop m).count e = (l.take m).count e := by rw [List.count_append, h1]; simp
  rwa [List.take_append_drop] at h2

theorem count_next {e : Int} {l : List Int} {k : Nat} (h : k < l.length) : (l.take (k + 1)).count e = (l.take k).count e + (if l.getD k 0 = e then 1 else 0) := by
  rw [take_snoc h, List.count_append]
  by_cases hz : l.getD k 0 = e
  · rw [if_pos hz, hz]; simp
  · rw [if_neg hz, count_free (l := [l.getD k 0]) (fun i hi => by simp at hi; subst hi; simpa using hz)]
theorem count_len (e : Int) (l : List Int) : l.count e ≤ l.length := List.count_le_length

/-- A Cur that has taken m bytes, and the bytes (k of them) that were gathered. -/
structure PartsAt (w : World) (g : Nat) (A1 : Option Addr) (c1 : Nat) (l : List Int) (base : Nat) (wr : World) (m k : Nat) (v : Value) : Prop where
  cur : IsCur wr g A1 c1 l ⟨m, 0, 0⟩ false
  own : OwnB wr base v k (l.take k)
  le : m ≤ l.length
  small : l.length ≤ 1000
  below : Below w.heap.size w wr
  g0 : w.heap.size ≤ g
  g1 : g < base
  a1 : 0 < l.length → ∀ ad, A1 = some ad → ad.block < base
  bs : base ≤ wr.heap.size

section
variable {w : World} {g : Nat} {A1 : Option Addr} {c1 : Nat} {l : List Int} {base m k : Nat} {v : Value} {wr w' : World}
theorem PartsAt.fits (h : PartsAt w g A1 c1 l base wr m k v) : (⟨m, 0, 0⟩ : CS).fits l := ⟨h.le, h.small, fun _ => rfl⟩
theorem PartsAt.later (h : PartsAt w g A1 c1 l base wr m k v) (hb : Below wr.heap.size wr w') : PartsAt w g A1 c1 l base w' m k v :=
  { h with cur := h.cur.below hb, own := h.own.kept hb, below := h.below.trans (hb.mono h.below.size), bs := Nat.le_trans h.bs hb.size }
theorem PartsAt.step_cur (h : PartsAt w g A1 c1 l base wr m k v) {m' : Nat} (hc : IsCur w' g A1 c1 l ⟨m', 0, 0⟩ false) (hm : m' ≤ l.length) (hg : wr.grownBy w' (some g)) : PartsAt w g A1 c1 l base w' m' k v :=
  { h with cur := hc, own := h.own.across hg (fun b e => by cases e; exact h.g1), le := hm, below := h.below.grown hg h.below.size (fun b e => by cases e; exact h.g0), bs := Nat.le_trans h.bs hg.size }
theorem PartsAt.step_own (h : PartsAt w g A1 c1 l base wr m k v) {k' : Nat} {v' : Value} (ho : OwnB w' base v' k' (l.take k')) (hg : wr.grownBy w' v.ownBlock) : PartsAt w g A1 c1 l base w' m k' v' :=
  { h with
    cur := h.cur.kept' hg (fun e => by have := (h.own.2.2.lt g e.symm).1; have := h.g1; omega) (fun h0 ad e e2 => by have := (h.own.2.2.lt ad.block e2).1; have := h.a1 h0 ad e; omega)
    own := ho
    below := h.below.grown hg h.below.size (fun b e => by have := (h.own.2.2.lt b e).1; have := h.g0; have := h.g1; omega)
    bs := Nat.le_trans h.bs hg.size }
/-- A new Cur, and an empty row. -/
theorem PartsAt.begin (hc : IsCur wr g A1 c1 l ⟨0, 0, 0⟩ false) (hs : l.length ≤ 1000) (hb : Below w.heap.size w wr) (hg : w.heap.size ≤ g) :
    PartsAt w g A1 c1 l wr.heap.size (wr.alloc (.cells #[] 5)) 0 0 (.slice (some ⟨wr.heap.size, 0, none⟩) 0 0) :=
  { cur := hc.below ((Below.refl _ _).alloc (Nat.le_refl _) _), own := ownB_made wr wr.heap.size (Nat.le_refl _), le := Nat.zero_le _, small := hs, below := hb.alloc hb.size _, g0 := hg, g1 := hc.lt, a1 := hc.2.1.old, bs := by simp }
end
end Go.Proofs.Ytiikppiogglppaa

/-
  The reference's lines, in plain words; and rows of them.
-/
import Derived.Test.YtnlnadpbbcjfdaaCutsWalk
import Derived.Test.YtnlnadpbbcjfdaaBounds
namespace Go.Proofs.Ytnlnadpbbcjfdaa
open Go.RowKit

theorem fin_cur : ∀ (l p cur : List Int), (p ++ cur ++ l).drop (fin p.length cur l).1 = (fin p.length cur l).2
  | [], p, cur => by rw [fin_nil, List.append_nil]; exact List.drop_left
  | z :: l, p, cur => by
    rw [fin_cons]
    by_cases hz : z = 10
    · subst hz
      rw [if_pos rfl]
      have ih := fin_cur l (p ++ cur ++ [10]) []
      have hlen : (p ++ cur ++ [10]).length = p.length + cur.length + 1 := by simp; omega
      rw [hlen] at ih
      have hall : (p ++ cur ++ 10 :: l) = p ++ cur ++ [10] ++ [] ++ l := by simp
      rw [hall]
      exact ih
    · rw [if_neg hz]
      have ih := fin_cur l p (cur ++ [z])
      have hall : p ++ cur ++ z :: l = p ++ (cur ++ [z]) ++ l := by simp
      rw [hall]
      exact ih

theorem fin_cur0 (l : List Int) : l.drop (fin 0 [] l).1 = (fin 0 [] l).2 := fin_cur l [] []

/-- What is open behind i bytes, as a part of all. -/
theorem fin_part (l : List Int) (i : Nat) (hi : i ≤ l.length) :
    (fin 0 [] (l.take i)).1 ≤ i ∧ (fin 0 [] (l.take i)).2.length = i - (fin 0 [] (l.take i)).1 ∧ (l.drop (fin 0 [] (l.take i)).1).take (i - (fin 0 [] (l.take i)).1) = (fin 0 [] (l.take i)).2 := by
  have h1 := fin_size (l.take i) 0 []
  have h2 := fin_cur0 (l.take i)
  rw [List.length_take, Nat.min_eq_left hi] at h1
  simp only [List.length_nil] at h1
  refine ⟨by omega, by omega, ?_⟩
  rw [List.drop_take] at h2
  exact h2

/-- A line of the reference. -/
def oneLine (m : Nat) (l : List Int) (fr e t : Nat) : LV := ⟨fr, t, if m < e - fr then [] else (l.drop fr).take (e - fr), decide (m < e - fr)⟩

theorem oneLine_mk (m : Nat) (l : List Int) (i j : Nat) (hi : i ≤ l.length) :
    oneLine m l (fin 0 [] (l.take i)).1 i (i + j) = mkLine m (fin 0 [] (l.take i)).1 (fin 0 [] (l.take i)).2 j := by
  obtain ⟨h1, h2, h3⟩ := fin_part l i hi
  unfold oneLine mkLine
  rw [h3, h2]
  have h4 : (fin 0 [] (l.take i)).1 + (i - (fin 0 [] (l.take i)).1) + j = i + j := by omega
  rw [h4]
  split <;> rename_i h5 <;> simp [h5]

theorem info51 : (Try.prog.info? 51).map (·.size) = some 4 := by kernel_rfl
theorem info51b : (Try.prog.info? 51).map (fun i => (i.zero, i.size, i.bytes)) = some (some (.agg #[.int .i64 0, .int .i64 0, .string ⟨#[]⟩, .bool false]), 4, 40) := by kernel_rfl

/-- The slice value v is the call's own row of the reference's lines. -/
def OwnR (w : World) (base : Nat) (v : Value) (ls : List LV) : Prop := w.ownsRow base 51 4 v ls.length (lcells ls)

theorem OwnR.below {w w' : World} {base : Nat} {v : Value} {ls : List LV} (h : OwnR w base v ls) (hb : Below w.heap.size w w') : OwnR w' base v ls := World.ownsRow.kept h (grown_below (row := none) hb) (by cases v.ownBlock <;> simp)
theorem ownR_made (w : World) (base : Nat) (hb : base ≤ w.heap.size) : OwnR (w.alloc (.cells #[] 51)) base (.slice (some ⟨w.heap.size, 0, none⟩) 0 0) [] := World.ownsRow_made w #[] 0 hb (by decide) rfl
theorem ownR_one (W : World) (x : LV) : OwnR (W.alloc (.cells (lvv x) 51)) W.heap.size (.slice (some ⟨W.heap.size, 0, none⟩) 1 1) [x] :=
  ⟨lcells_length [x], .inr ⟨W.heap.size, 1, lvv x, rfl, Nat.le_refl _, heap_alloc_new W _, Nat.le_refl _, by decide, rfl, by simp [lcells, lvv]⟩⟩

/-- 'append(v, x...)': lines of the reference behind such. -/
theorem append_refs (w : World) {ops : Array Oper} {rest : List Oper} {o : Oper} {a : Act} {Q : Exit → Act → World → Prop} (hgd : o.guard = none) (s x : Operand)
    (ho : o.op = .call { callee := .builtin .append, args := #[s, x], argTypes := #[43, 43] }) (base b2 : Nat) (v v2 : Value) (ls l2 : List LV) (hs : a.eval s = v) (hown : OwnR w base v ls) (hx : a.eval x = v2) (hown2 : OwnR w b2 v2 l2)
    (hlt : ls.length + l2.length ≤ 10000) (hbase : base ≤ w.heap.size)
    (h : ∀ v' w', OwnR w' base v' (ls ++ l2) → w.grownBy w' v.ownBlock → (v'.ownBlock = v.ownBlock ∨ v'.ownBlock = some w.heap.size) → wpList Try.prog ops Q rest (a.put o.dst v') w') :
    wpList Try.prog ops Q (o :: rest) a w := by
  obtain ⟨i0, hi, hz0, hz1, hz2⟩ := info_parts info51b
  have hcs := fun q e => World.ownsRow.cells hown2 (g := q) e
  rcases hown2.2 with ⟨rfl, h0⟩ | ⟨q, cap, cs, rfl, hb, hg, hc, _⟩
  · obtain rfl : l2 = [] := List.length_eq_zero_iff.1 h0
    exact wpList_append_own_none hgd s x 43 ho base 51 i0 4 Try.underlying43 hi v ls.length _ hs hown hx (h v w (by rw [List.append_nil]; exact hown) (World.grownBy.refl _ _) (.inl rfl))
  · refine wpList_append_own_at w hgd s x 43 ho base 51 i0 _ 4 40 Try.underlying43 hi hz0 hz1 hz2 rfl (by decide) v ls.length _ hs hown ⟨q, 0, none⟩ l2.length cap (lcells l2) hx (lcells_length l2) (hcs q rfl) (lcells_one l2) (by unfold maxLen; omega) (by omega) hbase ?_
    intro v' w' h1 h2 _ h3
    exact h v' w' (by unfold OwnR; rw [List.length_append, lcells_append]; exact h1) h2 h3

/-- Lines read there. -/
def LnAt (w : World) (O : Option Addr) (ls : List LV) : Prop :=
  ls = [] ∨ ∃ b off, O = some ⟨b, off, none⟩ ∧ b < w.heap.size ∧ ∀ i x, ls[i]? = some x → ∀ j u, (lvv x)[j]? = some u → w.cell? ⟨b, off + i * 4 + j, none⟩ = some u

theorem LnAt.below {w w' : World} {O : Option Addr} {ls : List LV} (h : LnAt w O ls) (hb : Below w.heap.size w w') : LnAt w' O ls := by
  rcases h with h | ⟨b, off, e, hlt, hc⟩
  · exact .inl h
  · exact .inr ⟨b, off, e, Nat.lt_of_lt_of_le hlt hb.size, fun i x hx j u hu => (hb.cell (p := ⟨b, off + i * 4 + j, none⟩) hlt).trans (hc i x hx j u hu)⟩

theorem LnAt.drop {w : World} {O : Option Addr} {ls : List LV} (h : LnAt w O ls) (p : Nat) : LnAt w (Option.map (fun a : Addr => a.add (p * 4)) O) (ls.drop p) := by
  rcases h with rfl | ⟨b, off, rfl, hlt, hc⟩
  · exact .inl List.drop_nil
  · refine .inr ⟨b, off + p * 4, ?_, hlt, fun i x hx j u hu => ?_⟩
    · simp only [Option.map_some, Addr.add]
      by_cases h0 : p * 4 = 0
      · rw [h0]; simp
      · simp [h0]
    · rw [List.getElem?_drop] at hx
      have := hc (p + i) x hx j u hu
      rw [← this]
      congr 2
      omega

theorem lcells_at : ∀ (ls : List LV) (i : Nat) (x : LV), ls[i]? = some x → ∀ j u, (lvv x)[j]? = some u → (lcells ls)[i * 4 + j]? = some u
  | [], i, x, hx, _, _, _ => by cases hx
  | y :: ls, 0, x, hx, j, u, hu => by
    cases hx
    have hj4 : j < 4 := (Array.getElem?_eq_some_iff.1 hu).1
    unfold lcells
    rw [List.flatMap_cons, List.getElem?_append_left (by show 0 * 4 + j < 4; omega), Nat.zero_mul, Nat.zero_add, Array.getElem?_toList]
    exact hu
  | y :: ls, i + 1, x, hx, j, u, hu => by
    unfold lcells
    rw [List.flatMap_cons, List.getElem?_append_right (by show 4 ≤ (i + 1) * 4 + j; omega)]
    rw [show (i + 1) * 4 + j - (lvv y).toList.length = i * 4 + j from by show (i + 1) * 4 + j - 4 = _; omega]
    exact lcells_at ls i x hx j u hu

theorem ownsRow_at {w : World} {base : Nat} {t : TypeId} {v : Value} {ls : List LV} (h : w.ownsRow base t 4 v ls.length (lcells ls)) : ∃ O cap, v = .slice O ls.length cap ∧ ls.length ≤ cap ∧ LnAt w O ls ∧ ∀ q, O = some q → q.block < w.heap.size := by
  have hl := h.lt
  have hcs := fun q e => World.ownsRow.cells h (g := q) e
  rcases h.2 with ⟨rfl, h0⟩ | ⟨q, cap, cs, rfl, hb, hg, hc, hR⟩
  · exact ⟨none, 0, by rw [h0], by omega, .inl (List.length_eq_zero_iff.1 h0), fun q e => by cases e⟩
  · refine ⟨some ⟨q, 0, none⟩, cap, rfl, hc, .inr ⟨q, 0, rfl, (hl q rfl).2, fun i x hx j u hj => ?_⟩, fun p e => by cases e; exact (hl q rfl).2⟩
    have e : (⟨q, 0, none⟩ : Addr).add (i * 4 + j) = ⟨q, 0 + i * 4 + j, none⟩ := by unfold Addr.add; split <;> simp_all
    rw [← e]
    exact hcs q rfl _ _ (lcells_at ls i x hx j u hj)
end Go.Proofs.Ytnlnadpbbcjfdaa

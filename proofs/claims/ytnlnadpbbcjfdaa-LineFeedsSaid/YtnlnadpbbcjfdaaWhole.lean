/-
  The lines of a stream that is cut.
-/
import Derived.Test.YtnlnadpbbcjfdaaCuts
namespace Go.Proofs.Ytnlnadpbbcjfdaa
open Go.RowKit

theorem ownsRow_ne {w : World} {base size n g : Nat} {e t : TypeId} {v : Value} {xs : List Value} {cs : Array Value} {fr : Nat × Nat} (h : w.ownsRow base e size v n xs) (hg : w.heap[g]? = some (.cells cs t fr)) (hne : e ≠ t) : v.ownBlock ≠ some g := by
  intro hv
  rcases h.2 with ⟨rfl, _⟩ | ⟨q, cap, cur, rfl, _, hq, _⟩
  · cases hv
  · cases hv
    rw [hq] at hg
    cases hg
    exact hne rfl

theorem OwnP.cell {w : World} {base : Nat} {v : Value} {ps : List Pt} (h : OwnP w base v ps) (hps : 1 ≤ ps.length) : ∃ q cap, v = .slice (some ⟨q, 0, none⟩) ps.length cap ∧ ps.length ≤ cap ∧ ∀ (k : Nat) (p : Pt), ps[k]? = some p → w.cell? ⟨q, k, none⟩ = some p.v := by
  have hcs := fun q e => World.ownsRow.cells h (g := q) e
  rcases h.2 with ⟨rfl, h0⟩ | ⟨q, cap, cs, rfl, hb, hg, hc, _⟩
  · omega
  · refine ⟨q, cap, rfl, hc, fun k p hk => ?_⟩
    have e : (⟨q, 0, none⟩ : Addr).add k = ⟨q, k, none⟩ := by unfold Addr.add; split <;> simp_all
    rw [← e]
    refine hcs q rfl k _ ?_
    rw [List.getElem?_map, hk]
    rfl

/-- 'append(v, x...)': lines behind lines. -/
theorem append_lines (w : World) {ops : Array Oper} {rest : List Oper} {o : Oper} {a : Act} {Q : Exit → Act → World → Prop} (hgd : o.guard = none) (s x : Operand)
    (ho : o.op = .call { callee := .builtin .append, args := #[s, x], argTypes := #[26, 26] }) (base b2 : Nat) (v v2 : Value) (ls l2 : List LV) (hs : a.eval s = v) (hown : OwnL w base v ls) (hx : a.eval x = v2) (hown2 : OwnL w b2 v2 l2)
    (hlt : ls.length + l2.length ≤ 10000) (hbase : base ≤ w.heap.size)
    (h : ∀ v' w', OwnL w' base v' (ls ++ l2) → w.grownBy w' v.ownBlock → (v'.ownBlock = v.ownBlock ∨ v'.ownBlock = some w.heap.size) → wpList Try.prog ops Q rest (a.put o.dst v') w') :
    wpList Try.prog ops Q (o :: rest) a w := by
  obtain ⟨i0, hi, hz0, hz1, hz2⟩ := info_parts info31b
  have hcs := fun q e => World.ownsRow.cells hown2 (g := q) e
  rcases hown2.2 with ⟨rfl, h0⟩ | ⟨q, cap, cs, rfl, hb, hg, hc, _⟩
  · obtain rfl : l2 = [] := List.length_eq_zero_iff.1 h0
    exact wpList_append_own_none hgd s x 26 ho base 31 i0 4 Try.underlying26 hi v ls.length _ hs hown hx (h v w (by rw [List.append_nil]; exact hown) (World.grownBy.refl _ _) (.inl rfl))
  · refine wpList_append_own_at w hgd s x 26 ho base 31 i0 _ 4 40 Try.underlying26 hi hz0 hz1 hz2 rfl (by decide) v ls.length _ hs hown ⟨q, 0, none⟩ l2.length cap (lcells l2) hx (lcells_length l2) (hcs q rfl) (lcells_one l2) (by unfold maxLen; omega) (by omega) hbase ?_
    intro v' w' h1 h2 _ h3
    exact h v' w' (by unfold OwnL; rw [List.length_append, lcells_append]; exact h1) h2 h3

theorem ownL_one (W : World) (x : LV) : OwnL (W.alloc (.cells (lvv x) 31)) W.heap.size (.slice (some ⟨W.heap.size, 0, none⟩) 1 1) [x] :=
  ⟨lcells_length [x], .inr ⟨W.heap.size, 1, lvv x, rfl, Nat.le_refl _, heap_alloc_new W _, Nat.le_refl _, by decide, rfl, by simp [lcells, lvv]⟩⟩

/-- All lines, with what is left. -/
def allLines (m : Nat) (l : List Int) : List LV := lin m 0 [] l ++ if (fin 0 [] l).2 = [] then [] else [mkLine m (fin 0 [] l).1 (fin 0 [] l).2 0]

theorem opn_le (m : Nat) (c : List Int) : (opn m c).length ≤ m := by
  unfold opn
  split
  · exact Nat.zero_le _
  · omega

theorem flat_take {ps : List Pt} {k : Nat} {p : Pt} (h : ps[k]? = some p) : flat (ps.take k) ++ p.t = flat (ps.take (k + 1)) := by
  rw [List.take_add_one, h, Option.toList_some, flat_snoc]
theorem flat_len {ps : List Pt} {k : Nat} {p : Pt} (h : ps[k]? = some p) : (flat (ps.take k)).length + p.t.length ≤ (flat ps).length := by
  have e : flat ps = flat (ps.take (k + 1)) ++ flat (ps.drop (k + 1)) := by
    unfold flat
    rw [← List.flatMap_append, List.take_append_drop]
  rw [e, ← flat_take h, List.length_append, List.length_append]
  omega

/-- Between two chunks. -/
structure WholeAt (w : World) (ps : List Pt) (vp : Value) (g m : Nat) (W : World) (L : List Int) (v : Value) (O : Option Addr) (co : Nat) : Prop where
  fr : IsFr W g m ((fin 0 [] L).1 + (fin 0 [] L).2.length) (fin 0 [] L).1 (fin 0 [] L).2 false O co
  out : OwnL W w.heap.size v (lin m 0 [] L)
  row : OwnP W w.heap.size vp ps
  bO : ∀ ad, O = some ad → ad.block < W.heap.size
  nO : ∀ ad, O = some ad → v.ownBlock ≠ some ad.block
  nP : ∀ b, v.ownBlock = some b → vp.ownBlock ≠ some b
  below : Below w.heap.size w W
  ge : w.heap.size ≤ g

/-- All chunks are fed, and nothing, or a line, is left. -/
theorem WholeAt.shut {w : World} {ps : List Pt} {vp : Value} {g m : Nat} {W Y : World} {L : List Int} {v : Value} {O : Option Addr} {co : Nat} (h : WholeAt w ps vp g m W L v O co) (hg : W.grownBy Y (some g)) : OwnL Y w.heap.size v (lin m 0 [] L) ∧ Below w.heap.size w Y :=
  ⟨World.ownsRow.kept h.out hg (.inr (ownsRow_ne h.out h.fr.row (by decide))), h.below.grown hg h.below.size (fun k e => by cases e; exact h.ge)⟩

/-- A chunk is fed. -/
theorem WholeAt.fed {w : World} {ps : List Pt} {vp : Value} {g m : Nat} {W Y : World} {L t : List Int} {v v2 : Value} {O O2 : Option Addr} {co co2 : Nat} (h : WholeAt w ps vp g m W L v O co)
    (hf : IsFr Y g m ((fin (fin 0 [] L).1 (fin 0 [] L).2 t).1 + (fin (fin 0 [] L).1 (fin 0 [] L).2 t).2.length) (fin (fin 0 [] L).1 (fin 0 [] L).2 t).1 (fin (fin 0 [] L).1 (fin 0 [] L).2 t).2 false O2 co2)
    (hO : ∀ ad, O2 = some ad → v2.ownBlock ≠ some ad.block ∧ (O2 = O ∨ W.heap.size ≤ ad.block) ∧ ad.block < Y.heap.size) (hg : W.grownBy Y (some g)) :
    OwnL Y w.heap.size v (lin m 0 [] L) ∧ w.heap.size ≤ Y.heap.size ∧
    ∀ v' Z, OwnL Z w.heap.size v' (lin m 0 [] L ++ lin m (fin 0 [] L).1 (fin 0 [] L).2 t) → Y.grownBy Z v.ownBlock → (v'.ownBlock = v.ownBlock ∨ v'.ownBlock = some Y.heap.size) → WholeAt w ps vp g m Z (L ++ t) v' O2 co2 := by
  have hng : v.ownBlock ≠ some g := ownsRow_ne h.out h.fr.row (by decide)
  have hnp : vp.ownBlock ≠ some g := ownsRow_ne h.row h.fr.row (by decide)
  have hout : OwnL Y w.heap.size v (lin m 0 [] L) := World.ownsRow.kept h.out hg (.inr hng)
  have hrow : OwnP Y w.heap.size vp ps := World.ownsRow.kept h.row hg (.inr hnp)
  have hbY := h.below.grown hg h.below.size (fun k e => by cases e; exact h.ge)
  refine ⟨hout, hbY.size, fun v' Z h1 h2 h3 => ?_⟩
  have hvl : ∀ b, v.ownBlock = some b → w.heap.size ≤ b ∧ b < W.heap.size := h.out.lt
  refine ⟨?_, ?_, ?_, ?_, ?_, ?_, hbY.grown h2 hbY.size (fun k e => (hvl k e).1), h.ge⟩
  · rw [fin_append]
    refine hf.kept h2 (fun e => hng e.symm) (fun ad e e2 => ?_)
    rcases (hO ad e).2.1 with h4 | h4
    · exact h.nO ad (h4 ▸ e) e2
    · have := (hvl _ e2).2; omega
  · rw [lin_append]; exact h1
  · refine World.ownsRow.kept hrow h2 ?_
    cases hv : vp.ownBlock with
    | none => exact .inl rfl
    | some b => exact .inr (fun e => h.nP b e.symm hv)
  · exact fun ad e => Nat.lt_of_lt_of_le (hO ad e).2.2 h2.size
  · intro ad e e2
    rcases h3 with h3 | h3
    · rw [h3] at e2
      rcases (hO ad e).2.1 with h4 | h4
      · exact h.nO ad (h4 ▸ e) e2
      · have := (hvl _ e2).2; omega
    · rw [h3] at e2
      have := Option.some.inj e2
      have := (hO ad e).2.2
      omega
  · intro b e e2
    rcases h3 with h3 | h3
    · exact h.nP b (h3 ▸ e) e2
    · rw [h3] at e
      have e3 := Option.some.inj e
      have := (hrow.lt b e2).2
      omega
end Go.Proofs.Ytnlnadpbbcjfdaa

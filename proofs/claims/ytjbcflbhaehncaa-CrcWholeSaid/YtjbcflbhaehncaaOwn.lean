/-
  Bytes that the call itself gathers: what an append of bytes leaves, and what a byte's store leaves.
-/
import Derived.Test.YtjbcflbhaehncaaPartsWalk
import Derived.Maps.AppendAt
import Derived.Laws.AppendOwnNone
import Derived.OwnWalk
namespace Go.Proofs.Ytjbcflbhaehncaa
open Go.RowKit
open Crc (U U_lo U_hi bv)

theorem info5 : (Try.prog.info? 5).map (fun i => (i.zero, i.size, i.bytes)) = some (some (.int .u8 0), 1, 1) := by kernel_rfl

/-- The slice value v is the call's own, of n bytes, and reads as l. -/
def OwnB (w : World) (base : Nat) (v : Value) (n : Nat) (l : List Int) : Prop :=
  l.length = n ∧ (∀ z ∈ l, 0 ≤ z ∧ z < 256) ∧ w.ownsRow base 5 1 v n (l.map (Value.int .u8))

theorem OwnB.form {w : World} {base : Nat} {v : Value} {n : Nat} {l : List Int} (h : OwnB w base v n l) (hn : 0 < n) :
    ∃ g cap, v = .slice (some ⟨g, 0, none⟩) n cap ∧ base ≤ g ∧ g < w.heap.size ∧ n ≤ cap ∧ Sl w (some ⟨g, 0, none⟩) n l := by
  obtain ⟨h1, h2, h3, h4⟩ := h
  rcases h4 with ⟨_, h0⟩ | ⟨g, cap, cur, rfl, hb, hg, hnc, _, hs, ht⟩
  · omega
  · have hlt := (Array.getElem?_eq_some_iff.1 hg).1
    refine ⟨g, cap, rfl, hb, hlt, hnc, h1, h2, .inr ⟨g, 0, rfl, hlt, fun i hi => ?_⟩⟩
    rw [cell_of_row w g (0 + i) cur 5 (0, 0) hg, Nat.zero_add]
    have e : (cur.toList.take (n * 1))[i]? = (l.map (Value.int .u8))[i]? := by rw [ht]
    rw [List.getElem?_take, if_pos (by omega), Array.getElem?_toList, List.getElem?_map, List.getElem?_eq_getElem (by omega)] at e
    rw [e, getD_lt (by omega)]
    rfl

theorem OwnB.slice {w : World} {base g cap n : Nat} {l : List Int} (h : OwnB w base (.slice (some ⟨g, 0, none⟩) n cap) n l) : Sl w (some ⟨g, 0, none⟩) n l := by
  by_cases hn : 0 < n
  · obtain ⟨g', cap', e, _, _, _, hs⟩ := h.form hn
    cases e
    exact hs
  · exact ⟨h.1, h.2.1, .inl (by omega)⟩

theorem OwnB.free {w : World} {base g cap n : Nat} {l : List Int} (h : OwnB w base (.slice (some ⟨g, 0, none⟩) n cap) n l) (j : Nat) : w.frozen? ⟨g, j, none⟩ = false := by
  rcases h.2.2.2 with ⟨e, _⟩ | ⟨g', cap', cur, e, _, hg, _⟩
  · cases e
  · cases e
    exact frozen_of_row w g j cur 5 hg

theorem OwnB.drew' {w : World} {base n : Nat} {v : Value} {l : List Int} (h : OwnB w base v n l) : OwnB w.drew base v n l := ⟨h.1, h.2.1, h.2.2.drew⟩

theorem ownB_made (w : World) (base : Nat) (hb : base ≤ w.heap.size) : OwnB (w.alloc (.cells #[] 5)) base (.slice (some ⟨w.heap.size, 0, none⟩) 0 0) 0 [] :=
  ⟨rfl, (by intro z hz; cases hz), World.ownsRow_made w #[] 0 hb (by decide) rfl⟩

theorem OwnB.kept {w w' : World} {base : Nat} {v : Value} {n : Nat} {l : List Int} (h : OwnB w base v n l) (hb : Below w.heap.size w w') : OwnB w' base v n l := by
  refine ⟨h.1, h.2.1, h.2.2.1, ?_⟩
  rcases h.2.2.2 with hn | ⟨g, cap, cur, e, hb', hg, r⟩
  · exact .inl hn
  · exact .inr ⟨g, cap, cur, e, hb', (hb.block g (Array.getElem?_eq_some_iff.1 hg).1).trans hg, r⟩

/-- 'append(v, x...)': v the call's own bytes, x bytes that read as l2, nil or not. -/
theorem append_bytes (w : World) {ops : Array Oper} {rest : List Oper} {o : Oper} {a : Act} {Q : Exit → Act → World → Prop} (hgd : o.guard = none) (s x : Operand)
    (ho : o.op = .call { callee := .builtin .append, args := #[s, x], argTypes := #[22, 22] })
    (base : Nat) (v : Value) (n : Nat) (l : List Int) (hs : a.eval s = v) (hown : OwnB w base v n l)
    (A : Option Addr) (m c : Nat) (l2 : List Int) (hx : a.eval x = .slice A m c) (hr : Sl w A m l2) (hc : A = none → c = 0)
    (hlt : n + m ≤ 100000) (hbase : base ≤ w.heap.size)
    (h : ∀ v' w', OwnB w' base v' (n + m) (l ++ l2) → w.grownBy w' v.ownBlock → (v'.ownBlock = v.ownBlock ∨ v'.ownBlock = some w.heap.size) → wpList Try.prog ops Q rest (a.put o.dst v') w') :
    wpList Try.prog ops Q (o :: rest) a w := by
  obtain ⟨i0, hi, hz0, hz1, hz2⟩ := info_parts info5
  have hall : ∀ z ∈ l ++ l2, 0 ≤ z ∧ z < 256 := fun z hz => (List.mem_append.1 hz).elim (hown.2.1 z) (hr.2.1 z)
  have hlen : (l ++ l2).length = n + m := by rw [List.length_append, hown.1, hr.1]
  have hmax : n + m ≤ maxLen := by unfold maxLen; omega
  cases A with
  | none =>
    have hm : m = 0 := hr.none_nil
    subst hm
    obtain rfl := hc rfl
    have hl2 : l2 = [] := List.length_eq_zero_iff.1 hr.1
    subst hl2
    exact wpList_append_own_none hgd s x 22 ho base 5 i0 1 Try.underlying22 hi v n _ hs hown.2.2 hx
      (h v w (by simpa using hown) (World.grownBy.refl _ _) (.inl rfl))
  | some ad =>
    refine wpList_append_own_at w hgd s x 22 ho base 5 i0 (.int .u8 0) 1 1 Try.underlying22 hi hz0 hz1 hz2 rfl (by decide) v n (l.map (Value.int .u8)) hs hown.2.2 ad m c (l2.map (Value.int .u8)) hx
      (by rw [List.length_map, hr.1, Nat.mul_one]) ?_ ?_ hmax (by omega) hbase ?_
    · intro j u hj
      rw [List.getElem?_map] at hj
      have hjl : j < l2.length := by
        rcases Nat.lt_or_ge j l2.length with h | h
        · exact h
        · rw [List.getElem?_eq_none h] at hj; cases hj
      obtain ⟨b, off, e, _, hcell⟩ := hr.at j (by rw [← hr.1]; exact hjl)
      cases e
      rw [List.getElem?_eq_getElem hjl] at hj
      have hu : Value.int .u8 l2[j] = u := by simpa using hj
      rw [← hu, ← getD_lt hjl, ← hcell]
      congr 1
      unfold Addr.add
      by_cases h0 : j = 0
      · subst h0; simp
      · simp [h0]
    · intro u hu
      obtain ⟨z, _, rfl⟩ := List.mem_map.1 hu
      rfl
    · intro v' w' hown' hg _ hat
      exact h v' w' ⟨hlen, hall, by rw [List.map_append]; exact hown'⟩ hg hat

/-- A byte stored. -/
theorem OwnB.store {w : World} {base g cap n : Nat} {l : List Int} (h : OwnB w base (.slice (some ⟨g, 0, none⟩) n cap) n l) (j : Nat) (d : Int) (hd : 0 ≤ d ∧ d < 256) :
    OwnB (w.setCell ⟨g, j, none⟩ (.int .u8 d)) base (.slice (some ⟨g, 0, none⟩) n cap) n (l.set j d) := by
  obtain ⟨h1, h2, h3, h4⟩ := h
  refine ⟨by rw [List.length_set]; exact h1, ?_, by rw [List.length_map, List.length_set]; omega, ?_⟩
  · intro z hz
    rcases List.mem_or_eq_of_mem_set hz with h | rfl
    · exact h2 z h
    · exact hd
  · rcases h4 with ⟨e, _⟩ | ⟨g', cap', cur, e, hb, hg, hnc, hm, hs, ht⟩
    · cases e
    · cases e
      refine .inr ⟨g, cap, _, rfl, hb, heap_setCell_same w g j cur 5 _ hg, hnc, hm, by simpa using hs, ?_⟩
      rw [Array.toList_setIfInBounds, List.take_set, ht, List.map_set]
end Go.Proofs.Ytjbcflbhaehncaa

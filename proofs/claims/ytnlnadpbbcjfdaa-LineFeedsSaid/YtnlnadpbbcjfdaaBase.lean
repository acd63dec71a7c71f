/-
  Bytes that read as lists: what came in, what is cut, and what the call itself gathers.
-/
import Derived.Test.YtnlnadpbbcjfdaaRows
import Derived.WalkKit
import Derived.WalkSpells
import Derived.WalkLawsBesides
import Derived.Lib.Hide
import Derived.Laws.BytesArg
import Derived.Lib.Bytes
import Derived.Lib.BytesEntry
import Derived.BigQuiet
import Derived.Deep.QuietTactic
import Derived.Deep.RegionWith
import Derived.Deep.RegionHeld3
import Derived.Deep.RegionLaw
import Derived.Maps.AppendAt
import Derived.Laws.AppendOwnNone
import Derived.OwnWalk
import Derived.Below
import Derived.Laws.Cover3
import Derived.Deep.AppendLies
namespace Go.Proofs.Ytnlnadpbbcjfdaa
open Go.RowKit

/-- A slice of bytes that reads as l. -/
def Sl (w : World) (a : Option Addr) (len : Nat) (l : List Int) : Prop :=
  l.length = len ∧ (∀ z ∈ l, 0 ≤ z ∧ z < 256) ∧ (len = 0 ∨ ∃ b off, a = some ⟨b, off, none⟩ ∧ b < w.heap.size ∧ ∀ i, i < len → w.cell? ⟨b, off + i, none⟩ = some (.int .u8 (l.getD i 0)))

theorem getD_lt {l : List Int} {k : Nat} (h : k < l.length) : l.getD k 0 = l[k] := by simp [h]

theorem getD_ge {l : List Int} {k : Nat} (h : l.length ≤ k) : l.getD k 0 = 0 := by simp [h]

theorem getD_byte {l : List Int} (h : ∀ z ∈ l, 0 ≤ z ∧ z < 256) (k : Nat) : 0 ≤ l.getD k 0 ∧ l.getD k 0 < 256 := by
  by_cases hk : k < l.length
  · rw [getD_lt hk]; exact h _ (List.getElem_mem hk)
  · rw [getD_ge (by omega)]; omega

theorem take_snoc {l : List Int} {k : Nat} (h : k < l.length) : l.take (k + 1) = l.take k ++ [l.getD k 0] := by
  rw [List.take_succ_eq_append_getElem h, getD_lt h]

theorem Sl.below {w w' : World} {a : Option Addr} {len : Nat} {l : List Int} (h : Sl w a len l) (hb : Below w.heap.size w w') : Sl w' a len l := by
  obtain ⟨h1, h2, h3⟩ := h
  refine ⟨h1, h2, ?_⟩
  rcases h3 with h0 | ⟨b, off, rfl, hlt, hc⟩
  · exact .inl h0
  · exact .inr ⟨b, off, rfl, Nat.lt_of_lt_of_le hlt hb.size, fun i hi => (hb.cell (p := ⟨b, off + i, none⟩) hlt).trans (hc i hi)⟩

theorem Sl.convert {w : World} {a : Option Addr} {len : Nat} {l : List Int} (h : Sl w a len l) (c : Nat) :
    (convert 22 9 (.slice a len c)).run Try.prog w = .ok (.string (strOfNums l)) w := by
  obtain ⟨h1, h2, h3⟩ := h
  rcases h3 with rfl | ⟨b, off, rfl, hlt, hc⟩
  · obtain rfl : l = [] := List.length_eq_zero_iff.1 h1
    rw [run_convert_bytes_string w 22 9 5 _ 0 c Try.underlying22 Try.underlying5 Try.underlying9]
    cases a <;> simp [Conv.bytesToString, loadCells]
    all_goals rfl
  · exact run_convert_bytes_arg (P := Try.prog) w 22 5 Try.underlying22 Try.underlying5 b off len c l h1 hc 9 Try.underlying9

theorem Sl.at {w : World} {a : Option Addr} {len : Nat} {l : List Int} (h : Sl w a len l) (k : Nat) (hk : k < len) : ∃ b off, a = some ⟨b, off, none⟩ ∧ b < w.heap.size ∧ w.cell? ⟨b, off + k, none⟩ = some (.int .u8 (l.getD k 0)) := by
  rcases h.2.2 with h0 | ⟨b, off, rfl, hlt, hc⟩
  · omega
  · exact ⟨b, off, rfl, hlt, hc k hk⟩

theorem Sl.drewN {w : World} {a : Option Addr} {len : Nat} {l : List Int} (h : Sl w a len l) (n : Nat) : Sl (w.drewN n) a len l := h

theorem below_drewN' {B : Nat} {a w : World} (h : Below B a w) (n : Nat) : Below B a (w.drewN n) := ⟨h.os, h.tape, h.output, h.size, h.block⟩

/-- Bytes wherever they begin: the slice from 'at' on. -/
theorem Sl.none_nil {w : World} {len : Nat} {l : List Int} (h : Sl w none len l) : len = 0 := by
  rcases h.2.2 with h0 | ⟨b, off, e, _⟩
  · exact h0
  · cases e

theorem sl_nil (w : World) (a : Option Addr) : Sl w a 0 [] := ⟨rfl, (by intro z hz; cases hz), .inl rfl⟩

theorem elem22 : Try.prog.elem 22 = 5 := by kernel_rfl

theorem size5 (w : World) : (sizeOf 5).run Try.prog w = .ok 1 w := by kernel_rfl

theorem run_cut (a : Option Addr) (len cap p n : Nat) (hp : p + n ≤ len) (hcap : len ≤ cap) (w' : World) :
   (Instr.slice 22 (.slice a len cap) (some (.int .i64 p)) (some (.int .i64 ((p : Int) + (n : Int)))) none).run Try.prog w' = .ok (.slice (if cap = p then a else a.map (·.add p)) n (cap - p)) w' := by
  rw [run_slice_lh (P := Try.prog) w' 22 a len cap (by rw [elem22]; exact Try.underlying22) .i64 .i64 p ((p : Int) + (n : Int)) (by omega) (by omega) (by omega)]
  rw [elem22, size5]
  have e1 : ((p : Int) + (n : Int)).toNat = p + n := by omega
  simp only [Result.andThen, sliced, e1, Int.toNat_natCast, Nat.mul_one, Nat.add_sub_cancel_left]

theorem sl_sub {w : World} {a : Option Addr} {len : Nat} {l : List Int} (h : Sl w a len l) (p n : Nat) (hp : p + n ≤ len) : Sl w (Option.map (fun x => x.add p) a) n ((l.drop p).take n) := by
  obtain ⟨h1, h2, h3⟩ := h
  refine ⟨by rw [List.length_take, List.length_drop]; omega, fun z hz => h2 z (List.mem_of_mem_drop (List.mem_of_mem_take hz)), ?_⟩
  by_cases h0 : n = 0
  · exact .inl h0
  · rcases h3 with h3 | ⟨b, off, rfl, hlt, hc⟩
    · omega
    · refine .inr ⟨b, off + p, ?_, hlt, fun i hi => ?_⟩
      · simp only [Option.map_some, Addr.add]
        by_cases hp0 : p = 0
        · subst hp0; simp
        · simp [hp0]
      · rw [show ((l.drop p).take n).getD i 0 = l.getD (p + i) 0 from by simp only [List.getD_eq_getElem?_getD, List.getElem?_take, hi, if_true, List.getElem?_drop], Nat.add_assoc]
        exact hc (p + i) (by omega)

/-- A slice of bytes cut: where the part begins, and what it reads as. -/
theorem cut_run {w : World} {a : Option Addr} {len cap : Nat} {l : List Int} (h : Sl w a len l) (p n : Nat) (hp : p + n ≤ len) (hcap : len ≤ cap) :
    ∃ a', (∀ w' : World, (Instr.slice 22 (.slice a len cap) (some (.int .i64 p)) (some (.int .i64 ((p : Int) + (n : Int)))) none).run Try.prog w' = .ok (.slice a' n (cap - p)) w') ∧ Sl w a' n ((l.drop p).take n) := by
  refine ⟨_, fun w' => run_cut a len cap p n hp hcap w', ?_⟩
  by_cases hc : cap = p
  · obtain rfl : n = 0 := by omega
    rw [List.take_zero]
    exact sl_nil _ _
  · rw [if_neg hc]
    exact sl_sub h p n hp

theorem Sl.byte {w : World} {a : Option Addr} {len : Nat} {l : List Int} (h : Sl w a len l) (k : Nat) : 0 ≤ l.getD k 0 ∧ l.getD k 0 < 256 := getD_byte h.2.1 k

/-- What a walk is told of a slice of integers that came in: it is nil; or it leads to a row of 'cap' cells, the numbers 'zs' (the first 'len' are its elements, the rest its spare room), each fitting its kind. -/
def IsRow (k : IntKind) (w : World) (a : Option Addr) (len cap : Nat) (zs : List Int) : Prop :=
  (a = none ∧ len = 0 ∧ cap = 0 ∧ zs = []) ∨
  ∃ x, a = some x ∧ len ≤ cap ∧ cap ≤ maxLen ∧ zs.length = cap ∧ (∀ i, i < zs.length → w.cell? (x.add i) = some (.int k (zs.getD i 0))) ∧ ∀ n ∈ zs, (Lit.int k n).wf = true

theorem wf_u8 {n : Int} (h : (Lit.int .u8 n).wf = true) : 0 ≤ n ∧ n < 256 := by
  have hmin : IntKind.u8.min = 0 := rfl
  have hmax : IntKind.u8.max = 255 := rfl
  simp only [Lit.wf, Bool.and_eq_true, decide_eq_true_eq] at h
  omega

theorem wf_i64 {n : Int} (h : (Lit.int .i64 n).wf = true) : -9223372036854775808 ≤ n ∧ n < 9223372036854775808 := by
  have hmin : IntKind.i64.min = -9223372036854775808 := rfl
  have hmax : IntKind.i64.max = 9223372036854775807 := rfl
  simp only [Lit.wf, Bool.and_eq_true, decide_eq_true_eq] at h
  omega

theorem getD_take (zs : List Int) (n i : Nat) (h : i < n) : (zs.take n).getD i 0 = zs.getD i 0 := by
  simp only [List.getD_eq_getElem?_getD, List.getElem?_take, h, if_true]

theorem sl_of_row {w : World} {a : Option Addr} {len cap : Nat} {zs : List Int} (h : IsRow .u8 w a len cap zs) : Sl w a len (zs.take len) := by
  rcases h with ⟨rfl, rfl, rfl, rfl⟩ | ⟨x, rfl, hl, hm, hz, hcell, hwz⟩
  · exact ⟨rfl, (by intro z hz; simp at hz), Or.inl rfl⟩
  · refine ⟨by rw [List.length_take]; omega, fun z hz => wf_u8 (hwz z (List.mem_of_mem_take hz)), ?_⟩
    by_cases h0 : len = 0
    · exact .inl h0
    · right
      obtain ⟨b, off, spot⟩ := x
      have hc := hcell 0 (by omega)
      have hspot : spot = none := by simpa [Addr.add] using World.cell?_spot hc
      subst hspot
      refine ⟨b, off, rfl, ?_, fun i hi => ?_⟩
      · exact block_lt_of_cell hc
      · rw [getD_take zs len i hi]
        have e : (⟨b, off, none⟩ : Addr).add i = ⟨b, off + i, none⟩ := by
          unfold Addr.add
          by_cases h : i = 0
          · subst h; simp
          · simp [h]
        rw [← e]
        exact hcell i (by omega)

theorem row_le {k : IntKind} {w : World} {a : Option Addr} {len cap : Nat} {zs : List Int} (h : IsRow k w a len cap zs) : len ≤ cap := by
  rcases h with ⟨rfl, rfl, rfl, rfl⟩ | ⟨x, rfl, hl, _⟩
  · exact Nat.le_refl _
  · exact hl

theorem info5 : (Try.prog.info? 5).map (fun i => (i.zero, i.size, i.bytes)) = some (some (.int .u8 0), 1, 1) := by kernel_rfl

/-- The slice value v is the call's own, of n bytes, and reads as l. -/
def OwnB (w : World) (base : Nat) (v : Value) (n : Nat) (l : List Int) : Prop :=
  l.length = n ∧ (∀ z ∈ l, 0 ≤ z ∧ z < 256) ∧ w.ownsRow base 5 1 v n (l.map (Value.int .u8))

theorem OwnB.form {w : World} {base : Nat} {v : Value} {n : Nat} {l : List Int} (h : OwnB w base v n l) (hn : 0 < n) :
    ∃ g cap, v = .slice (some ⟨g, 0, none⟩) n cap ∧ base ≤ g ∧ g < w.heap.size ∧ n ≤ cap ∧ Sl w (some ⟨g, 0, none⟩) n l := by
  obtain ⟨h1, h2, h3, h4⟩ := h
  rcases h4 with ⟨_, h0⟩ | ⟨g, cap, cur, rfl, hb, hg, hnc, _, hs, ht⟩
  · omega
  · have hlt := (Array.getElem?_eq_some_iff.1 hg).1
    refine ⟨g, cap, rfl, hb, hlt, hnc, h1, h2, .inr ⟨g, 0, rfl, hlt, fun i hi => ?_⟩⟩
    rw [cell_of_row w g (0 + i) cur 5 (0, 0) hg, Nat.zero_add]
    have e : (cur.toList.take (n * 1))[i]? = (l.map (Value.int .u8))[i]? := by rw [ht]
    rw [List.getElem?_take, if_pos (by omega), Array.getElem?_toList, List.getElem?_map, List.getElem?_eq_getElem (by omega)] at e
    rw [e, getD_lt (by omega)]
    rfl

theorem OwnB.slice {w : World} {base g cap n : Nat} {l : List Int} (h : OwnB w base (.slice (some ⟨g, 0, none⟩) n cap) n l) : Sl w (some ⟨g, 0, none⟩) n l := by
  by_cases hn : 0 < n
  · obtain ⟨g', cap', e, _, _, _, hs⟩ := h.form hn
    cases e
    exact hs
  · exact ⟨h.1, h.2.1, .inl (by omega)⟩

theorem OwnB.free {w : World} {base g cap n : Nat} {l : List Int} (h : OwnB w base (.slice (some ⟨g, 0, none⟩) n cap) n l) (j : Nat) : w.frozen? ⟨g, j, none⟩ = false := by
  rcases h.2.2.2 with ⟨e, _⟩ | ⟨g', cap', cur, e, _, hg, _⟩
  · cases e
  · cases e
    exact frozen_of_row w g j cur 5 hg

theorem OwnB.drew' {w : World} {base n : Nat} {v : Value} {l : List Int} (h : OwnB w base v n l) : OwnB w.drew base v n l := ⟨h.1, h.2.1, h.2.2.drew⟩

theorem ownB_made (w : World) (base : Nat) (hb : base ≤ w.heap.size) : OwnB (w.alloc (.cells #[] 5)) base (.slice (some ⟨w.heap.size, 0, none⟩) 0 0) 0 [] :=
  ⟨rfl, (by intro z hz; cases hz), World.ownsRow_made w #[] 0 hb (by decide) rfl⟩

theorem OwnB.kept {w w' : World} {base : Nat} {v : Value} {n : Nat} {l : List Int} (h : OwnB w base v n l) (hb : Below w.heap.size w w') : OwnB w' base v n l := by
  refine ⟨h.1, h.2.1, h.2.2.1, ?_⟩
  rcases h.2.2.2 with hn | ⟨g, cap, cur, e, hb', hg, r⟩
  · exact .inl hn
  · exact .inr ⟨g, cap, cur, e, hb', (hb.block g (Array.getElem?_eq_some_iff.1 hg).1).trans hg, r⟩

/-- 'append(v, x...)': v the call's own bytes, x bytes that read as l2, nil or not. -/
theorem append_bytes (w : World) {ops : Array Oper} {rest : List Oper} {o : Oper} {a : Act} {Q : Exit → Act → World → Prop} (hgd : o.guard = none) (s x : Operand)
    (ho : o.op = .call { callee := .builtin .append, args := #[s, x], argTypes := #[22, 22] })
    (base : Nat) (v : Value) (n : Nat) (l : List Int) (hs : a.eval s = v) (hown : OwnB w base v n l)
    (A : Option Addr) (m c : Nat) (l2 : List Int) (hx : a.eval x = .slice A m c) (hr : Sl w A m l2) (hc : A = none → c = 0)
    (hlt : n + m ≤ 100000) (hbase : base ≤ w.heap.size)
    (h : ∀ v' w', OwnB w' base v' (n + m) (l ++ l2) → w.grownBy w' v.ownBlock → (v'.ownBlock = v.ownBlock ∨ v'.ownBlock = some w.heap.size) → wpList Try.prog ops Q rest (a.put o.dst v') w') :
    wpList Try.prog ops Q (o :: rest) a w := by
  obtain ⟨i0, hi, hz0, hz1, hz2⟩ := info_parts info5
  have hall : ∀ z ∈ l ++ l2, 0 ≤ z ∧ z < 256 := fun z hz => (List.mem_append.1 hz).elim (hown.2.1 z) (hr.2.1 z)
  have hlen : (l ++ l2).length = n + m := by rw [List.length_append, hown.1, hr.1]
  have hmax : n + m ≤ maxLen := by unfold maxLen; omega
  cases A with
  | none =>
    have hm : m = 0 := hr.none_nil
    subst hm
    obtain rfl := hc rfl
    have hl2 : l2 = [] := List.length_eq_zero_iff.1 hr.1
    subst hl2
    exact wpList_append_own_none hgd s x 22 ho base 5 i0 1 Try.underlying22 hi v n _ hs hown.2.2 hx
      (h v w (by simpa using hown) (World.grownBy.refl _ _) (.inl rfl))
  | some ad =>
    refine wpList_append_own_at w hgd s x 22 ho base 5 i0 (.int .u8 0) 1 1 Try.underlying22 hi hz0 hz1 hz2 rfl (by decide) v n (l.map (Value.int .u8)) hs hown.2.2 ad m c (l2.map (Value.int .u8)) hx
      (by rw [List.length_map, hr.1, Nat.mul_one]) ?_ ?_ hmax (by omega) hbase ?_
    · intro j u hj
      rw [List.getElem?_map] at hj
      have hjl : j < l2.length := by
        rcases Nat.lt_or_ge j l2.length with h | h
        · exact h
        · rw [List.getElem?_eq_none h] at hj; cases hj
      obtain ⟨b, off, e, _, hcell⟩ := hr.at j (by rw [← hr.1]; exact hjl)
      cases e
      rw [List.getElem?_eq_getElem hjl] at hj
      have hu : Value.int .u8 l2[j] = u := by simpa using hj
      rw [← hu, ← getD_lt hjl, ← hcell]
      congr 1
      unfold Addr.add
      by_cases h0 : j = 0
      · subst h0; simp
      · simp [h0]
    · intro u hu
      obtain ⟨z, _, rfl⟩ := List.mem_map.1 hu
      rfl
    · intro v' w' hown' hg _ hat
      exact h v' w' ⟨hlen, hall, by rw [List.map_append]; exact hown'⟩ hg hat

/-- A byte stored. -/
theorem OwnB.store {w : World} {base g cap n : Nat} {l : List Int} (h : OwnB w base (.slice (some ⟨g, 0, none⟩) n cap) n l) (j : Nat) (d : Int) (hd : 0 ≤ d ∧ d < 256) :
    OwnB (w.setCell ⟨g, j, none⟩ (.int .u8 d)) base (.slice (some ⟨g, 0, none⟩) n cap) n (l.set j d) := by
  obtain ⟨h1, h2, h3, h4⟩ := h
  refine ⟨by rw [List.length_set]; exact h1, ?_, by rw [List.length_map, List.length_set]; omega, ?_⟩
  · intro z hz
    rcases List.mem_or_eq_of_mem_set hz with h | rfl
    · exact h2 z h
    · exact hd
  · rcases h4 with ⟨e, _⟩ | ⟨g', cap', cur, e, hb, hg, hnc, hm, hs, ht⟩
    · cases e
    · cases e
      refine .inr ⟨g, cap, _, rfl, hb, heap_setCell_same w g j cur 5 _ hg, hnc, hm, by simpa using hs, ?_⟩
      rw [Array.toList_setIfInBounds, List.take_set, ht, List.map_set]

/-- A slice's place: nil without room; or a place of cells. -/
def Tidy (A : Option Addr) (c : Nat) : Prop := (A = none ∧ c = 0) ∨ ∃ b o, A = some ⟨b, o, none⟩
theorem Tidy.nil {A : Option Addr} {c : Nat} (h : Tidy A c) : A = none → c = 0 := by
  intro e
  rcases h with h | ⟨b, o, h⟩
  · exact h.2
  · rw [h] at e; cases e
theorem Tidy.add {A : Option Addr} {c : Nat} (h : Tidy A c) (p : Nat) : Tidy (Option.map (fun x : Addr => x.add p) A) (c - p) := by
  rcases h with ⟨rfl, rfl⟩ | ⟨b, o, rfl⟩
  · exact .inl ⟨rfl, by omega⟩
  · refine .inr ⟨b, o + p, ?_⟩
    simp only [Option.map_some, Addr.add]
    by_cases h0 : p = 0
    · subst h0; simp
    · simp [h0]
theorem Tidy.same {A : Option Addr} {c p : Nat} (h : Tidy A c) (hc : c = p) : Tidy A (c - p) := by
  rcases h with ⟨rfl, rfl⟩ | ⟨b, o, rfl⟩
  · exact .inl ⟨rfl, by omega⟩
  · exact .inr ⟨b, o, rfl⟩

/-- The same, and no part of what is not nil is nil. -/
theorem cut_run' {w : World} {a : Option Addr} {len cap : Nat} {l : List Int} (h : Sl w a len l) (p n : Nat) (hp : p + n ≤ len) (hcap : len ≤ cap) (hnil : Tidy a cap) :
    ∃ a', (∀ w' : World, (Instr.slice 22 (.slice a len cap) (some (.int .i64 p)) (some (.int .i64 ((p : Int) + (n : Int)))) none).run Try.prog w' = .ok (.slice a' n (cap - p)) w') ∧ Sl w a' n ((l.drop p).take n) ∧ Tidy a' (cap - p) := by
  refine ⟨_, fun w' => run_cut a len cap p n hp hcap w', ?_, ?_⟩
  · by_cases hc : cap = p
    · obtain rfl : n = 0 := by omega
      rw [List.take_zero]
      exact sl_nil _ _
    · rw [if_neg hc]
      exact sl_sub h p n hp
  · by_cases hc : cap = p
    · rw [if_pos hc]; exact hnil.same hc
    · rw [if_neg hc]; exact hnil.add p

/-- The slice from p on. -/
theorem cut_from {w : World} {a : Option Addr} {len cap : Nat} {l : List Int} (h : Sl w a len l) (p : Nat) (hp : p ≤ len) (hcap : len ≤ cap) (hnil : Tidy a cap) :
    ∃ a', (∀ w' : World, (Instr.slice 22 (.slice a len cap) (some (.int .i64 p)) none none).run Try.prog w' = .ok (.slice a' (len - p) (cap - p)) w') ∧ Sl w a' (len - p) (l.drop p) ∧ Tidy a' (cap - p) := by
  refine ⟨(if cap = p then a else Option.map (fun x : Addr => x.add p) a), fun w' => ?_, ?_, ?_⟩
  · rw [run_slice_l (P := Try.prog) w' 22 a len cap (by rw [elem22]; exact Try.underlying22) .i64 (p : Int) (by omega) (by omega)]
    rw [elem22, size5]
    simp only [Result.andThen, sliced, Int.toNat_natCast, Nat.mul_one]
  · have e : (l.drop p).take (len - p) = l.drop p := List.take_of_length_le (by rw [List.length_drop, h.1]; exact Nat.le_refl _)
    by_cases hc : cap = p
    · have h0 : len - p = 0 := by omega
      rw [h0, List.drop_eq_nil_of_le (by rw [h.1]; omega)]
      exact sl_nil _ _
    · rw [if_neg hc, ← e]
      exact sl_sub h p (len - p) (by omega)
  · by_cases hc : cap = p
    · rw [if_pos hc]; exact hnil.same hc
    · rw [if_neg hc]; exact hnil.add p

/-- The slice up to p. -/
theorem cut_to {w : World} {a : Option Addr} {len cap : Nat} {l : List Int} (h : Sl w a len l) (p : Nat) (hp : p ≤ len) (hcap : len ≤ cap) (hnil : Tidy a cap) :
    ∃ a', (∀ w' : World, (Instr.slice 22 (.slice a len cap) none (some (.int .i64 p)) none).run Try.prog w' = .ok (.slice a' p cap) w') ∧ Sl w a' p (l.take p) ∧ Tidy a' cap := by
  refine ⟨(if cap = 0 then a else Option.map (fun x : Addr => x.add 0) a), fun w' => ?_, ?_, ?_⟩
  · rw [run_slice_h (P := Try.prog) w' 22 a len cap (by rw [elem22]; exact Try.underlying22) .i64 (p : Int) (by omega) (by omega)]
    rw [elem22, size5]
    simp only [Result.andThen, sliced, Int.toNat_natCast, Nat.zero_mul, Nat.sub_zero]
  · by_cases hc : cap = 0
    · obtain rfl : p = 0 := by omega
      rw [List.take_zero]
      exact sl_nil _ _
    · rw [if_neg hc]
      have := sl_sub h 0 p (by omega)
      rw [List.drop_zero] at this
      exact this
  · by_cases hc : cap = 0
    · rw [if_pos hc]; exact hnil
    · rw [if_neg hc]
      have := hnil.add 0
      rwa [Nat.sub_zero] at this

theorem Sl.grown {w w' : World} {a : Option Addr} {len : Nat} {l : List Int} {row : Option Nat} (h : Sl w a len l) (hg : w.grownBy w' row) (hne : ∀ ad, a = some ad → row ≠ some ad.block) : Sl w' a len l := by
  obtain ⟨h1, h2, h3⟩ := h
  refine ⟨h1, h2, ?_⟩
  rcases h3 with h0 | ⟨b, off, rfl, hlt, hc⟩
  · exact .inl h0
  · exact .inr ⟨b, off, rfl, Nat.lt_of_lt_of_le hlt hg.size, fun i hi => (World.cell?_of_block (w := w) (hg.block b hlt (fun e => hne _ rfl e.symm))).trans (hc i hi)⟩

/-- A store into a cell that holds no byte. -/
theorem Sl.put {w : World} {a : Option Addr} {len : Nat} {l : List Int} (h : Sl w a len l) {g j : Nat} {v : Value} (u : Value) (hc : w.cell? ⟨g, j, none⟩ = some v) (hv : ∀ z, v ≠ .int .u8 z) : Sl (w.setCell ⟨g, j, none⟩ u) a len l := by
  obtain ⟨h1, h2, h3⟩ := h
  refine ⟨h1, h2, ?_⟩
  rcases h3 with h0 | ⟨b, off, rfl, hlt, hcc⟩
  · exact .inl h0
  · refine .inr ⟨b, off, rfl, by simpa [World.setCell] using hlt, fun i hi => ?_⟩
    rw [World.cell?_setCell_other _ _ _ _ (fun e => ?_)]
    · exact hcc i hi
    · rw [e] at hc
      exact hv _ ((Option.some.inj ((hcc i hi).symm.trans hc)).symm)

theorem eql_nil (A : Option Addr) (n c : Nat) (w : World) : (binOp .eql 22 (.slice A n c) (.slice none 0 0)).run Try.prog w = .ok (.bool A.isNone) w := by
  simp only [binOp]
  simp [run_equal_slice_nil w 22 5 A n c Try.underlying22]
end Go.Proofs.Ytnlnadpbbcjfdaa

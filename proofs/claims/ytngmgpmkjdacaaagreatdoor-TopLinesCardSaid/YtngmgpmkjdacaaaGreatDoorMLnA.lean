/-
 Bytes that read as lists: what came in, what is cut, and what the call itself gathers. An append of bytes as a step of a region that draws its order. bytes.Cut at a separator of one byte: where it first stands. Lines of a stream, in plain words: byte by byte, and that they do not hang on how the stream is cut. A Framer in memory, and what its small methods do to it.
-/
import Derived.Test.YtngmgpmkjdacaaaGreatDoorRows
import Derived.WalkKit
import Derived.WalkSpells
import Derived.WalkLawsBesides
import Derived.Lib.Hide
import Derived.Laws.BytesArg
import Derived.Lib.Bytes
import Derived.Lib.BytesEntry
import Derived.BigQuiet
import Derived.Deep.QuietTactic
import Derived.Deep.RegionWith
import Derived.Deep.RegionHeld3
import Derived.Deep.RegionLaw
import Derived.Maps.AppendAt
import Derived.Laws.AppendOwnNone
import Derived.OwnWalk
import Derived.Below
import Derived.Laws.Cover3
import Derived.Deep.AppendLies
set_option linter.unusedSimpArgs false
set_option linter.unusedVariables false
namespace Go.Proofs.YtngmgpmkjdacaaaGreatDoor
set_option maxRecDepth 100000
open Go.RowKit

/-- A slice of bytes that reads as l. -/
def Sl (w : World) (a : Option Addr) (len : Nat) (l : List Int) : Prop :=
 l.length = len ∧ (∀ z ∈ l, 0 ≤ z ∧ z < 256) ∧ (len = 0 ∨ ∃ b off, a = some ⟨b, off, none⟩ ∧ b < w.heap.size ∧ ∀ i, i < len → w.cell? ⟨b, off + i, none⟩ = some (.int .u8 (l.getD i 0)))

theorem getD_lt {l : List Int} {k : Nat} (h : k < l.length) : l.getD k 0 = l[k] := by simp [h]

theorem getD_ge {l : List Int} {k : Nat} (h : l.length ≤ k) : l.getD k 0 = 0 := by simp [h]

theorem getD_byte {l : List Int} (h : ∀ z ∈ l, 0 ≤ z ∧ z < 256) (k : Nat) : 0 ≤ l.getD k 0 ∧ l.getD k 0 < 256 := by
 by_cases hk : k < l.length
 ·rw [getD_lt hk]; exact h _ (List.getElem_mem hk)
 ·rw [getD_ge (by omega)]; omega

theorem Sl.below {w w' : World} {a : Option Addr} {len : Nat} {l : List Int} (h : Sl w a len l) (hb : Below w.heap.size w w') : Sl w' a len l := by
 obtain ⟨h1, h2, h3⟩ := h
 refine ⟨h1, h2, ?_⟩
 rcases h3 with h0 | ⟨b, off, rfl, hlt, hc⟩
 ·exact .inl h0
 ·exact .inr ⟨b, off, rfl, Nat.lt_of_lt_of_le hlt hb.size, fun i hi => (hb.cell (p := ⟨b, off + i, none⟩) hlt).trans (hc i hi)⟩

theorem Sl.convert {w : World} {a : Option Addr} {len : Nat} {l : List Int} (h : Sl w a len l) (c : Nat) :
  (convert 22 9 (.slice a len c)).run Tryz.prog w = .ok (.string (strOfNums l)) w := by
 obtain ⟨h1, h2, h3⟩ := h
 rcases h3 with rfl | ⟨b, off, rfl, hlt, hc⟩
 ·obtain rfl : l = [] := List.length_eq_zero_iff.1 h1
  rw [run_convert_bytes_string w 22 9 5 _ 0 c Tryz.underlying22 Tryz.underlying5 Tryz.underlying9]
  cases a <;> simp [Conv.bytesToString, loadCells]
  all_goals rfl
 ·exact run_convert_bytes_arg (P := Tryz.prog) w 22 5 Tryz.underlying22 Tryz.underlying5 b off len c l h1 hc 9 Tryz.underlying9

theorem Sl.at {w : World} {a : Option Addr} {len : Nat} {l : List Int} (h : Sl w a len l) (k : Nat) (hk : k < len) : ∃ b off, a = some ⟨b, off, none⟩ ∧ b < w.heap.size ∧ w.cell? ⟨b, off + k, none⟩ = some (.int .u8 (l.getD k 0)) := by
 rcases h.2.2 with h0 | ⟨b, off, rfl, hlt, hc⟩
 ·omega
 ·exact ⟨b, off, rfl, hlt, hc k hk⟩

theorem Sl.drewN {w : World} {a : Option Addr} {len : Nat} {l : List Int} (h : Sl w a len l) (n : Nat) : Sl (w.drewN n) a len l := h

theorem below_drewN' {B : Nat} {a w : World} (h : Below B a w) (n : Nat) : Below B a (w.drewN n) := ⟨h.os, h.tape, h.output, h.size, h.block⟩

/-- Bytes wherever they begin: the slice from 'at' on. -/
theorem Sl.none_nil {w : World} {len : Nat} {l : List Int} (h : Sl w none len l) : len = 0 := by
 rcases h.2.2 with h0 | ⟨b, off, e, _⟩
 ·exact h0
 ·cases e

theorem sl_nil (w : World) (a : Option Addr) : Sl w a 0 [] := ⟨rfl, (by intro z hz; cases hz), .inl rfl⟩

theorem elem22 : Tryz.prog.elem 22 = 5 := by kernel_rfl

theorem size5 (w : World) : (sizeOf 5).run Tryz.prog w = .ok 1 w := by kernel_rfl

theorem sl_sub {w : World} {a : Option Addr} {len : Nat} {l : List Int} (h : Sl w a len l) (p n : Nat) (hp : p + n ≤ len) : Sl w (Option.map (fun x => x.add p) a) n ((l.drop p).take n) := by
 obtain ⟨h1, h2, h3⟩ := h
 refine ⟨by rw [List.length_take, List.length_drop]; omega, fun z hz => h2 z (List.mem_of_mem_drop (List.mem_of_mem_take hz)), ?_⟩
 by_cases h0 : n = 0
 ·exact .inl h0
 ·rcases h3 with h3 | ⟨b, off, rfl, hlt, hc⟩
  ·omega
  ·refine .inr ⟨b, off + p, ?_, hlt, fun i hi => ?_⟩
   ·simp only [Option.map_some, Addr.add]
    by_cases hp0 : p = 0
    ·subst hp0; simp
    ·simp [hp0]
   ·rw [show ((l.drop p).take n).getD i 0 = l.getD (p + i) 0 from by simp only [List.getD_eq_getElem?_getD, List.getElem?_take, hi, if_true, List.getElem?_drop], Nat.add_assoc]
    exact hc (p + i) (by omega)

theorem Sl.byte {w : World} {a : Option Addr} {len : Nat} {l : List Int} (h : Sl w a len l) (k : Nat) : 0 ≤ l.getD k 0 ∧ l.getD k 0 < 256 := getD_byte h.2.1 k

theorem wf_u8 {n : Int} (h : (Lit.int .u8 n).wf = true) : 0 ≤ n ∧ n < 256 := by
 have hmin : IntKind.u8.min = 0 := rfl
 have hmax : IntKind.u8.max = 255 := rfl
 simp only [Lit.wf, Bool.and_eq_true, decide_eq_true_eq] at h
 omega

theorem getD_take (zs : List Int) (n i : Nat) (h : i < n) : (zs.take n).getD i 0 = zs.getD i 0 := by
 simp only [List.getD_eq_getElem?_getD, List.getElem?_take, h, if_true]

theorem info5 : (Tryz.prog.info? 5).map (fun i => (i.zero, i.size, i.bytes)) = some (some (.int .u8 0), 1, 1) := by kernel_rfl

/-- The slice value v is the call's own, of n bytes, and reads as l. -/
def OwnB (w : World) (base : Nat) (v : Value) (n : Nat) (l : List Int) : Prop :=
 l.length = n ∧ (∀ z ∈ l, 0 ≤ z ∧ z < 256) ∧ w.ownsRow base 5 1 v n (l.map (Value.int .u8))

theorem OwnB.form {w : World} {base : Nat} {v : Value} {n : Nat} {l : List Int} (h : OwnB w base v n l) (hn : 0 < n) :
  ∃ g cap, v = .slice (some ⟨g, 0, none⟩) n cap ∧ base ≤ g ∧ g < w.heap.size ∧ n ≤ cap ∧ Sl w (some ⟨g, 0, none⟩) n l := by
 obtain ⟨h1, h2, h3, h4⟩ := h
 rcases h4 with ⟨_, h0⟩ | ⟨g, cap, cur, rfl, hb, hg, hnc, _, hs, ht⟩
 ·omega
 ·have hlt := (Array.getElem?_eq_some_iff.1 hg).1
  refine ⟨g, cap, rfl, hb, hlt, hnc, h1, h2, .inr ⟨g, 0, rfl, hlt, fun i hi => ?_⟩⟩
  rw [cell_of_row w g (0 + i) cur 5 (0, 0) hg, Nat.zero_add]
  have e : (cur.toList.take (n * 1))[i]? = (l.map (Value.int .u8))[i]? := by rw [ht]
  rw [List.getElem?_take, if_pos (by omega), Array.getElem?_toList, List.getElem?_map, List.getElem?_eq_getElem (by omega)] at e
  rw [e, getD_lt (by omega)]
  rfl

theorem OwnB.slice {w : World} {base g cap n : Nat} {l : List Int} (h : OwnB w base (.slice (some ⟨g, 0, none⟩) n cap) n l) : Sl w (some ⟨g, 0, none⟩) n l := by
 by_cases hn : 0 < n
 ·obtain ⟨g', cap', e, _, _, _, hs⟩ := h.form hn
  cases e
  exact hs
 ·exact ⟨h.1, h.2.1, .inl (by omega)⟩

theorem OwnB.free {w : World} {base g cap n : Nat} {l : List Int} (h : OwnB w base (.slice (some ⟨g, 0, none⟩) n cap) n l) (j : Nat) : w.frozen? ⟨g, j, none⟩ = false := by
 rcases h.2.2.2 with ⟨e, _⟩ | ⟨g', cap', cur, e, _, hg, _⟩
 ·cases e
 ·cases e
  exact frozen_of_row w g j cur 5 hg

theorem ownB_made (w : World) (base : Nat) (hb : base ≤ w.heap.size) : OwnB (w.alloc (.cells #[] 5)) base (.slice (some ⟨w.heap.size, 0, none⟩) 0 0) 0 [] :=
 ⟨rfl, (by intro z hz; cases hz), World.ownsRow_made w #[] 0 hb (by decide) rfl⟩

theorem OwnB.kept {w w' : World} {base : Nat} {v : Value} {n : Nat} {l : List Int} (h : OwnB w base v n l) (hb : Below w.heap.size w w') : OwnB w' base v n l := by
 refine ⟨h.1, h.2.1, h.2.2.1, ?_⟩
 rcases h.2.2.2 with hn | ⟨g, cap, cur, e, hb', hg, r⟩
 ·exact .inl hn
 ·exact .inr ⟨g, cap, cur, e, hb', (hb.block g (Array.getElem?_eq_some_iff.1 hg).1).trans hg, r⟩

/-- 'append(v, x...)': v the call's own bytes, x bytes that read as l2, nil or not. -/
theorem append_bytes (w : World) {ops : Array Oper} {rest : List Oper} {o : Oper} {a : Act} {Q : Exit → Act → World → Prop} (hgd : o.guard = none) (s x : Operand)
  (ho : o.op = .call { callee := .builtin .append, args := #[s, x], argTypes := #[22, 22] })
  (base : Nat) (v : Value) (n : Nat) (l : List Int) (hs : a.eval s = v) (hown : OwnB w base v n l)
  (A : Option Addr) (m c : Nat) (l2 : List Int) (hx : a.eval x = .slice A m c) (hr : Sl w A m l2) (hc : A = none → c = 0)
  (hlt : n + m ≤ 100000) (hbase : base ≤ w.heap.size)
  (h : ∀ v' w', OwnB w' base v' (n + m) (l ++ l2) → w.grownBy w' v.ownBlock → (v'.ownBlock = v.ownBlock ∨ v'.ownBlock = some w.heap.size) → wpList Tryz.prog ops Q rest (a.put o.dst v') w') :
  wpList Tryz.prog ops Q (o :: rest) a w := by
 obtain ⟨i0, hi, hz0, hz1, hz2⟩ := info_parts info5
 have hall : ∀ z ∈ l ++ l2, 0 ≤ z ∧ z < 256 := fun z hz => (List.mem_append.1 hz).elim (hown.2.1 z) (hr.2.1 z)
 have hlen : (l ++ l2).length = n + m := by rw [List.length_append, hown.1, hr.1]
 have hmax : n + m ≤ maxLen := by unfold maxLen; omega
 cases A with
 | none =>
  have hm : m = 0 := hr.none_nil
  subst hm
  obtain rfl := hc rfl
  have hl2 : l2 = [] := List.length_eq_zero_iff.1 hr.1
  subst hl2
  exact wpList_append_own_none hgd s x 22 ho base 5 i0 1 Tryz.underlying22 hi v n _ hs hown.2.2 hx
   (h v w (by simpa using hown) (World.grownBy.refl _ _) (.inl rfl))
 | some ad =>
  refine wpList_append_own_at w hgd s x 22 ho base 5 i0 (.int .u8 0) 1 1 Tryz.underlying22 hi hz0 hz1 hz2 rfl (by decide) v n (l.map (Value.int .u8)) hs hown.2.2 ad m c (l2.map (Value.int .u8)) hx
   (by rw [List.length_map, hr.1, Nat.mul_one]) ?_ ?_ hmax (by omega) hbase ?_
  ·intro j u hj
   rw [List.getElem?_map] at hj
   have hjl : j < l2.length := by
    rcases Nat.lt_or_ge j l2.length with h | h
    ·exact h
    ·rw [List.getElem?_eq_none h] at hj; cases hj
   obtain ⟨b, off, e, _, hcell⟩ := hr.at j (by rw [← hr.1]; exact hjl)
   cases e
   rw [List.getElem?_eq_getElem hjl] at hj
   have hu : Value.int .u8 l2[j] = u := by simpa using hj
   rw [← hu, ← getD_lt hjl, ← hcell]
   refine congrArg _ ?_
   unfold Addr.add
   by_cases h0 : j = 0
   ·subst h0; simp
   ·simp [h0]
  ·intro u hu
   obtain ⟨z, _, rfl⟩ := List.mem_map.1 hu
   rfl
  ·intro v' w' hown' hg _ hat
   exact h v' w' ⟨hlen, hall, by rw [List.map_append]; exact hown'⟩ hg hat

/-- A byte stored. -/
theorem OwnB.store {w : World} {base g cap n : Nat} {l : List Int} (h : OwnB w base (.slice (some ⟨g, 0, none⟩) n cap) n l) (j : Nat) (d : Int) (hd : 0 ≤ d ∧ d < 256) :
  OwnB (w.setCell ⟨g, j, none⟩ (.int .u8 d)) base (.slice (some ⟨g, 0, none⟩) n cap) n (l.set j d) := by
 obtain ⟨h1, h2, h3, h4⟩ := h
 refine ⟨by rw [List.length_set]; exact h1, ?_, by rw [List.length_map, List.length_set]; omega, ?_⟩
 ·intro z hz
  rcases List.mem_or_eq_of_mem_set hz with h | rfl
  ·exact h2 z h
  ·exact hd
 ·rcases h4 with ⟨e, _⟩ | ⟨g', cap', cur, e, hb, hg, hnc, hm, hs, ht⟩
  ·cases e
  ·cases e
   refine .inr ⟨g, cap, _, rfl, hb, heap_setCell_same w g j cur 5 _ hg, hnc, hm, by simpa using hs, ?_⟩
   rw [Array.toList_setIfInBounds, List.take_set, ht, List.map_set]

/-- A slice's place: nil without room; or a place of cells. -/
def Tidy (A : Option Addr) (c : Nat) : Prop := (A = none ∧ c = 0) ∨ ∃ b o, A = some ⟨b, o, none⟩
theorem Tidy.nil {A : Option Addr} {c : Nat} (h : Tidy A c) : A = none → c = 0 := by
 intro e
 rcases h with h | ⟨b, o, h⟩
 ·exact h.2
 ·rw [h] at e; cases e
theorem Tidy.add {A : Option Addr} {c : Nat} (h : Tidy A c) (p : Nat) : Tidy (Option.map (fun x : Addr => x.add p) A) (c - p) := by
 rcases h with ⟨rfl, rfl⟩ | ⟨b, o, rfl⟩
 ·exact .inl ⟨rfl, by omega⟩
 ·refine .inr ⟨b, o + p, ?_⟩
  simp only [Option.map_some, Addr.add]
  by_cases h0 : p = 0
  ·subst h0; simp
  ·simp [h0]
theorem Tidy.same {A : Option Addr} {c p : Nat} (h : Tidy A c) (hc : c = p) : Tidy A (c - p) := by
 rcases h with ⟨rfl, rfl⟩ | ⟨b, o, rfl⟩
 ·exact .inl ⟨rfl, by omega⟩
 ·exact .inr ⟨b, o, rfl⟩

/-- The slice from p on. -/
theorem cut_from {w : World} {a : Option Addr} {len cap : Nat} {l : List Int} (h : Sl w a len l) (p : Nat) (hp : p ≤ len) (hcap : len ≤ cap) (hnil : Tidy a cap) :
  ∃ a', (∀ w' : World, (Instr.slice 22 (.slice a len cap) (some (.int .i64 p)) none none).run Tryz.prog w' = .ok (.slice a' (len - p) (cap - p)) w') ∧ Sl w a' (len - p) (l.drop p) ∧ Tidy a' (cap - p) := by
 refine ⟨(if cap = p then a else Option.map (fun x : Addr => x.add p) a), fun w' => ?_, ?_, ?_⟩
 ·rw [run_slice_l (P := Tryz.prog) w' 22 a len cap (by rw [elem22]; exact Tryz.underlying22) .i64 (p : Int) (by omega) (by omega)]
  rw [elem22, size5]
  simp only [Result.andThen, sliced, Int.toNat_natCast, Nat.mul_one]
 ·have e : (l.drop p).take (len - p) = l.drop p := List.take_of_length_le (by rw [List.length_drop, h.1]; exact Nat.le_refl _)
  by_cases hc : cap = p
  ·have h0 : len - p = 0 := by omega
   rw [h0, List.drop_eq_nil_of_le (by rw [h.1]; omega)]
   exact sl_nil _ _
  ·rw [if_neg hc, ← e]
   exact sl_sub h p (len - p) (by omega)
 ·by_cases hc : cap = p
  ·rw [if_pos hc]; exact hnil.same hc
  ·rw [if_neg hc]; exact hnil.add p

/-- The slice up to p. -/
theorem cut_to {w : World} {a : Option Addr} {len cap : Nat} {l : List Int} (h : Sl w a len l) (p : Nat) (hp : p ≤ len) (hcap : len ≤ cap) (hnil : Tidy a cap) :
  ∃ a', (∀ w' : World, (Instr.slice 22 (.slice a len cap) none (some (.int .i64 p)) none).run Tryz.prog w' = .ok (.slice a' p cap) w') ∧ Sl w a' p (l.take p) ∧ Tidy a' cap := by
 refine ⟨(if cap = 0 then a else Option.map (fun x : Addr => x.add 0) a), fun w' => ?_, ?_, ?_⟩
 ·rw [run_slice_h (P := Tryz.prog) w' 22 a len cap (by rw [elem22]; exact Tryz.underlying22) .i64 (p : Int) (by omega) (by omega)]
  rw [elem22, size5]
  simp only [Result.andThen, sliced, Int.toNat_natCast, Nat.zero_mul, Nat.sub_zero]
 ·by_cases hc : cap = 0
  ·obtain rfl : p = 0 := by omega
   rw [List.take_zero]
   exact sl_nil _ _
  ·rw [if_neg hc]
   have := sl_sub h 0 p (by omega)
   rw [List.drop_zero] at this
   exact this
 ·by_cases hc : cap = 0
  ·rw [if_pos hc]; exact hnil
  ·rw [if_neg hc]
   have := hnil.add 0
   rwa [Nat.sub_zero] at this

theorem Sl.grown {w w' : World} {a : Option Addr} {len : Nat} {l : List Int} {row : Option Nat} (h : Sl w a len l) (hg : w.grownBy w' row) (hne : ∀ ad, a = some ad → row ≠ some ad.block) : Sl w' a len l := by
 obtain ⟨h1, h2, h3⟩ := h
 refine ⟨h1, h2, ?_⟩
 rcases h3 with h0 | ⟨b, off, rfl, hlt, hc⟩
 ·exact .inl h0
 ·exact .inr ⟨b, off, rfl, Nat.lt_of_lt_of_le hlt hg.size, fun i hi => (World.cell?_of_block (w := w) (hg.block b hlt (fun e => hne _ rfl e.symm))).trans (hc i hi)⟩

/-- A store into a cell that holds no byte. -/
theorem Sl.put {w : World} {a : Option Addr} {len : Nat} {l : List Int} (h : Sl w a len l) {g j : Nat} {v : Value} (u : Value) (hc : w.cell? ⟨g, j, none⟩ = some v) (hv : ∀ z, v ≠ .int .u8 z) : Sl (w.setCell ⟨g, j, none⟩ u) a len l := by
 obtain ⟨h1, h2, h3⟩ := h
 refine ⟨h1, h2, ?_⟩
 rcases h3 with h0 | ⟨b, off, rfl, hlt, hcc⟩
 ·exact .inl h0
 ·refine .inr ⟨b, off, rfl, by simpa [World.setCell] using hlt, fun i hi => ?_⟩
  rw [World.cell?_setCell_other _ _ _ _ (fun e => ?_)]
  ·exact hcc i hi
  ·rw [e] at hc
   exact hv _ ((Option.some.inj ((hcc i hi).symm.trans hc)).symm)

end Go.Proofs.YtngmgpmkjdacaaaGreatDoor
namespace Go.Proofs.YtngmgpmkjdacaaaGreatDoor
set_option maxRecDepth 100000
open Go.RowKit

end Go.Proofs.YtngmgpmkjdacaaaGreatDoor
namespace Go.Proofs.YtngmgpmkjdacaaaGreatDoor
set_option maxRecDepth 100000
open Go.RowKit

/-- Where a byte first stands. -/
def pos (e : Int) : List Int → Option Nat
 | [] => none
 | z :: l => if z = e then some 0 else (pos e l).map (· + 1)
def posInt (e : Int) (l : List Int) : Int := match pos e l with
 | some i => i
 | none => -1

theorem pos_lt {e : Int} : ∀ {l : List Int} {i : Nat}, pos e l = some i → i < l.length
 | [], i, h => by cases h
 | z :: l, i, h => by
  unfold pos at h
  split at h
  ·cases h; simp
  ·cases hp : pos e l with
   | none => rw [hp] at h; cases h
   | some j =>
    rw [hp] at h
    have := pos_lt hp
    cases h
    simp; omega

theorem byte_eq {z e : Int} (hz : 0 ≤ z ∧ z < 256) (he : 0 ≤ e ∧ e < 256) : (UInt8.ofNat z.toNat == e.toNat.toUInt8) = decide (z = e) := by
 rw [Bool.eq_iff_iff, beq_iff_eq, decide_eq_true_eq]
 constructor
 ·intro h
  have h1 := congrArg UInt8.toNat h
  have h2 : (UInt8.ofNat z.toNat).toNat = z.toNat := by simp; omega
  have h3 : (e.toNat.toUInt8).toNat = e.toNat := by simp; omega
  omega
 ·rintro rfl; rfl

theorem index_pos {e : Int} (he : 0 ≤ e ∧ e < 256) : ∀ {l : List Int}, (∀ z ∈ l, 0 ≤ z ∧ z < 256) → Lib.indexByte (Lib.bytesOf l) e.toNat.toUInt8 = posInt e l
 | [], _ => rfl
 | z :: l, h => by
  have ih := index_pos he (l := l) (fun x hx => h x (List.mem_cons_of_mem _ hx))
  have hb := byte_eq (h z (List.mem_cons_self ..)) he
  show Lib.indexByte (UInt8.ofNat z.toNat :: Lib.bytesOf l) e.toNat.toUInt8 = posInt e (z :: l)
  unfold Lib.indexByte
  rw [hb, ih]
  have hp : pos e (z :: l) = if z = e then some 0 else (pos e l).map (· + 1) := rfl
  by_cases h0 : z = e
  ·rw [if_pos (decide_eq_true h0)]
   unfold posInt
   rw [hp, if_pos h0]; rfl
  ·rw [if_neg (by rw [decide_eq_false h0]; decide)]
   unfold posInt
   rw [hp, if_neg h0]
   cases pos e l with
   | none => rfl
   | some i =>
    show (if (((i : Nat) : Int) == -1) = true then (-1 : Int) else (i : Int) + 1) = ((i + 1 : Nat) : Int)
    rw [if_neg (by rw [beq_iff_eq]; omega)]; omega

set_option maxHeartbeats 1000000 in
theorem indexbyte_any (A : Option Addr) (n c : Nat) (l : List Int) (e : Int) (w : World) (hs : Sl w A n l) (ht : Tidy A c) (he : 0 ≤ e ∧ e < 256) :
  Calls Tryz.prog 237 #[.slice A n c, .int .u8 e] w fun r w' => r = .returned (.int .i64 (posInt e l)) ∧ w = w' := by
 have hi := index_pos he hs.2.1
 rcases ht with ⟨rfl, rfl⟩ | ⟨b, o, rfl⟩
 ·have h0 : n = 0 := hs.none_nil
  subst h0
  obtain rfl : l = [] := List.length_eq_zero_iff.1 hs.1
  go_enter Tryz.func237, Tryz.ntmps237
  go_wp2
  rw [run_callFunc_extern Tryz.func273 (by kernel_rfl) (by kernel_rfl) (by kernel_rfl) (e := Extern.BytealgIndexByte.indexByte) (by kernel_rfl), Lib.run_indexByteNil w 0 0 e]
  simp only [Result.andThen]
  rw [Oper.upon_value]
  go_wp2
  go_ret
  exact ⟨rfl, rfl⟩
 ·have hc : ∀ i, i < n → w.cell? ⟨b, o + i, none⟩ = some (.int .u8 (l.getD i 0)) := by
   intro i hi
   obtain ⟨b', o', e', _, h⟩ := hs.at i hi
   cases e'
   exact h
  have hrun := Lib.run_indexByteSlice (P := Tryz.prog) w b o n c l hs.1 hc e
  rw [hi] at hrun
  have HR := Lib.hid hrun
  clear hrun hi hc
  go_enter Tryz.func237, Tryz.ntmps237
  go_wp2
  rw [run_callFunc_extern Tryz.func273 (by kernel_rfl) (by kernel_rfl) (by kernel_rfl) (e := Extern.BytealgIndexByte.indexByte) (by kernel_rfl), HR.out]
  simp only [Result.andThen]
  rw [Oper.upon_value]
  go_wp2
  go_ret
  exact ⟨rfl, rfl⟩

set_option maxRecDepth 100000 in
/-- bytes.Index at a separator of one byte. -/
theorem index_one (A : Option Addr) (n c : Nat) (l : List Int) (e : Int) (b o c2 : Nat) (w : World) (hs : Sl w A n l) (ht : Tidy A c) (he : 0 ≤ e ∧ e < 256) (hb : w.cell? ⟨b, o, none⟩ = some (.int .u8 e)) :
  Calls Tryz.prog 187 #[.slice A n c, .slice (some ⟨b, o, none⟩) 1 c2] w fun r w' => r = .returned (.int .i64 (posInt e l)) ∧ w = w' := by
 have HS := Lib.hid hs
 clear hs
 go_enter Tryz.func187, Tryz.ntmps187
 go_wp2_with fail
 refine (indexbyte_any A n c l e w HS.out ht he).mono ?_
 rintro r w' ⟨rfl, rfl⟩
 go_wp2
 go_ret
 exact ⟨rfl, rfl⟩

/-- Where a cut begins does not hang on the world. -/
theorem cut_to_all {w : World} {A : Option Addr} {n c : Nat} {l : List Int} (h : Sl w A n l) (p : Nat) (hp : p ≤ n) (hc : n ≤ c) (ht : Tidy A c) :
  ∃ a', (∀ w' : World, (Instr.slice 22 (.slice A n c) none (some (.int .i64 p)) none).run Tryz.prog w' = .ok (.slice a' p c) w') ∧ (∀ X, Sl X A n l → Sl X a' p (l.take p)) ∧ Tidy a' c := by
 obtain ⟨a1, h1, s1, t1⟩ := cut_to h p hp hc ht
 refine ⟨a1, h1, fun X hX => ?_, t1⟩
 obtain ⟨a2, h2, s2, t2⟩ := cut_to hX p hp hc ht
 have := (h1 w).symm.trans (h2 w)
 cases this
 exact s2
theorem cut_from_all {w : World} {A : Option Addr} {n c : Nat} {l : List Int} (h : Sl w A n l) (p : Nat) (hp : p ≤ n) (hc : n ≤ c) (ht : Tidy A c) :
  ∃ a', (∀ w' : World, (Instr.slice 22 (.slice A n c) (some (.int .i64 p)) none none).run Tryz.prog w' = .ok (.slice a' (n - p) (c - p)) w') ∧ (∀ X, Sl X A n l → Sl X a' (n - p) (l.drop p)) ∧ Tidy a' (c - p) := by
 obtain ⟨a1, h1, s1, t1⟩ := cut_from h p hp hc ht
 refine ⟨a1, h1, fun X hX => ?_, t1⟩
 obtain ⟨a2, h2, s2, t2⟩ := cut_from hX p hp hc ht
 have := (h1 w).symm.trans (h2 w)
 cases this
 exact s2

/-- bytes.Cut at a separator of one byte. -/
def CutIn (w : World) (A : Option Addr) (n c : Nat) (l : List Int) (e : Int) (r : Ending) (w' : World) : Prop :=
 Below w.heap.size w w' ∧ match pos e l with
  | some i => ∃ A1 A2 c2, r = .returned (.tuple #[.slice A1 i c, .slice A2 (n - (i + 1)) c2, .bool true]) ∧ (∀ X, Sl X A n l → Sl X A1 i (l.take i)) ∧ Tidy A1 c ∧ (∀ X, Sl X A n l → Sl X A2 (n - (i + 1)) (l.drop (i + 1))) ∧ Tidy A2 c2 ∧ n - (i + 1) ≤ c2
  | none => r = .returned (.tuple #[.slice A n c, .slice none 0 0, .bool false])

set_option maxHeartbeats 1000000 in
theorem cut_one (A : Option Addr) (n c : Nat) (l : List Int) (e : Int) (b o c2 : Nat) (w : World) (hs : Sl w A n l) (ht : Tidy A c) (hc : n ≤ c) (hn : n ≤ 1000000) (he : 0 ≤ e ∧ e < 256) (hb : w.cell? ⟨b, o, none⟩ = some (.int .u8 e)) :
  Calls Tryz.prog 141 #[.slice A n c, .slice (some ⟨b, o, none⟩) 1 c2] w (CutIn w A n c l e) := by
 have HS := Lib.hid hs
 obtain ⟨p, hp⟩ : ∃ p, p = posInt e l := ⟨_, rfl⟩
 cases hq : pos e l with
 | some i =>
  have hi := pos_lt hq
  rw [hs.1] at hi
  have hpi : posInt e l = (i : Int) := by unfold posInt; rw [hq]
  obtain ⟨A1, h1, s1, t1⟩ := cut_to_all hs i (by omega) hc ht
  obtain ⟨A2, h2, s2, t2⟩ := cut_from_all hs (i + 1) (by omega) hc ht
  rw [Int.natCast_add, Int.natCast_one] at h2
  have HE : Hid (∀ w', Below w.heap.size w w' → CutIn w A n c l e (.returned (.tuple #[.slice A1 i c, .slice A2 (n - (i + 1)) (c - (i + 1)), .bool true])) w') := Lib.hid (fun w' hb => by
   unfold CutIn
   rw [hq]
   exact ⟨hb, A1, A2, c - (i + 1), rfl, s1, t1, s2, t2, by omega⟩)
  clear s1 t1 s2 t2 hs hq
  go_enter Tryz.func141, Tryz.ntmps141
  go_wp2_with fail
  refine (index_one A n c l e b o c2 w HS.out ht he hb).mono ?_
  rintro r w' ⟨rfl, rfl⟩
  rw [hpi]
  clear hpi
  go_wp2
  go_quiet (fail)
  go_wp2
  go_ret3
  exact HE.out _ (below_drewN' (Below.refl _ _) _)
 | none =>
  have hpi : posInt e l = -1 := by unfold posInt; rw [hq]
  have HE : Hid (∀ w', Below w.heap.size w w' → CutIn w A n c l e (.returned (.tuple #[.slice A n c, .slice none 0 0, .bool false])) w') := Lib.hid (fun w' hb => by
   unfold CutIn
   rw [hq]
   exact ⟨hb, rfl⟩)
  clear hs hq
  go_enter Tryz.func141, Tryz.ntmps141
  go_wp2_with fail
  refine (index_one A n c l e b o c2 w HS.out ht he hb).mono ?_
  rintro r w' ⟨rfl, rfl⟩
  rw [hpi]
  clear hpi
  go_wp2
  go_ret3
  exact HE.out _ (Below.refl _ _)
end Go.Proofs.YtngmgpmkjdacaaaGreatDoor
namespace Go.Proofs.YtngmgpmkjdacaaaGreatDoor
set_option maxRecDepth 100000

/-- A line: which bytes it has, its text, or that it was too long. -/
structure LV where
 a : Nat
 b : Nat
 t : List Int
 long : Bool

/-- What is open, from a place on, as a line that ends with so many bytes behind it. -/
def mkLine (m : Nat) (fr : Nat) (cur : List Int) (k : Nat) : LV :=
 if m < cur.length then ⟨fr, fr + cur.length + k, [], true⟩ else ⟨fr, fr + cur.length + k, cur, false⟩

/-- The lines that bytes end, where so much is open. -/
def lin (m : Nat) : Nat → List Int → List Int → List LV
 | _, _, [] => []
 | fr, cur, z :: l => if z = 10 then mkLine m fr cur 1 :: lin m (fr + cur.length + 1) [] l else lin m fr (cur ++ [z]) l

/-- What is open behind them. -/
def fin : Nat → List Int → List Int → Nat × List Int
 | fr, cur, [] => (fr, cur)
 | fr, cur, z :: l => if z = 10 then fin (fr + cur.length + 1) [] l else fin fr (cur ++ [z]) l

theorem lin_nil (m fr : Nat) (cur : List Int) : lin m fr cur [] = [] := rfl
theorem lin_cons (m fr : Nat) (cur : List Int) (z : Int) (l : List Int) : lin m fr cur (z :: l) = if z = 10 then mkLine m fr cur 1 :: lin m (fr + cur.length + 1) [] l else lin m fr (cur ++ [z]) l := rfl
theorem fin_nil (fr : Nat) (cur : List Int) : fin fr cur [] = (fr, cur) := rfl
theorem fin_cons (fr : Nat) (cur : List Int) (z : Int) (l : List Int) : fin fr cur (z :: l) = if z = 10 then fin (fr + cur.length + 1) [] l else fin fr (cur ++ [z]) l := rfl

theorem lin_append (m : Nat) : ∀ (l l2 : List Int) (fr : Nat) (cur : List Int), lin m fr cur (l ++ l2) = lin m fr cur l ++ lin m (fin fr cur l).1 (fin fr cur l).2 l2
 | [], _, _, _ => rfl
 | z :: l, l2, fr, cur => by
  rw [List.cons_append, lin_cons, lin_cons, fin_cons]
  split
  ·rw [lin_append m l l2, List.cons_append]
  ·exact lin_append m l l2 _ _
theorem fin_append : ∀ (l l2 : List Int) (fr : Nat) (cur : List Int), fin fr cur (l ++ l2) = fin (fin fr cur l).1 (fin fr cur l).2 l2
 | [], _, _, _ => rfl
 | z :: l, l2, fr, cur => by
  rw [List.cons_append, fin_cons, fin_cons]
  split
  ·exact fin_append l l2 _ _
  ·exact fin_append l l2 _ _

/-- All bytes are in lines, or open. -/
theorem fin_size : ∀ (l : List Int) (fr : Nat) (cur : List Int), (fin fr cur l).1 + (fin fr cur l).2.length = fr + cur.length + l.length
 | [], _, _ => rfl
 | z :: l, fr, cur => by
  rw [fin_cons]
  split
  ·rw [fin_size l]; simp; omega
  ·rw [fin_size l]; simp; omega

/-- Bytes without a line feed. -/
theorem lin_free (m : Nat) : ∀ (l : List Int) (fr : Nat) (cur : List Int), (∀ z ∈ l, z ≠ 10) → lin m fr cur l = [] ∧ fin fr cur l = (fr, cur ++ l)
 | [], fr, cur, _ => ⟨rfl, by simp [fin]⟩
 | z :: l, fr, cur, h => by
  rw [lin_cons, fin_cons, if_neg (h z (by simp)), if_neg (h z (by simp))]
  have := lin_free m l fr (cur ++ [z]) (fun x hx => h x (by simp [hx]))
  rw [this.1, this.2]
  exact ⟨rfl, by simp⟩
/-- A piece that ends with one. -/
theorem lin_piece (m : Nat) (t l : List Int) (fr : Nat) (cur : List Int) (h : ∀ z ∈ t, z ≠ 10) :
  lin m fr cur (t ++ 10 :: l) = mkLine m fr (cur ++ t) 1 :: lin m (fr + (cur ++ t).length + 1) [] l ∧ fin fr cur (t ++ 10 :: l) = fin (fr + (cur ++ t).length + 1) [] l := by
 have hf := lin_free m t fr cur h
 rw [lin_append, fin_append, hf.1, hf.2, lin_cons, fin_cons, if_pos rfl, if_pos rfl]
 exact ⟨rfl, rfl⟩

theorem pos_split {l : List Int} {i : Nat} (h : pos 10 l = some i) : l = l.take i ++ 10 :: l.drop (i + 1) ∧ ∀ z ∈ l.take i, z ≠ 10 := by
 induction l generalizing i with
 | nil => cases h
 | cons z l ih =>
  unfold pos at h
  split at h
  ·rename_i hz; cases h; subst hz; simp
  ·rename_i hz
   cases hp : pos 10 l with
   | none => rw [hp] at h; cases h
   | some j =>
    rw [hp] at h
    cases h
    obtain ⟨h1, h2⟩ := ih hp
    refine ⟨by simpa using h1, fun x hx => ?_⟩
    simp only [List.take_succ_cons, List.mem_cons] at hx
    rcases hx with rfl | hx
    ·exact hz
    ·exact h2 x hx
theorem pos_free {l : List Int} (h : pos 10 l = none) : ∀ z ∈ l, z ≠ 10 := by
 induction l with
 | nil => intro z hz; cases hz
 | cons z l ih =>
  unfold pos at h
  split at h
  ·cases h
  ·rename_i hz
   cases hp : pos 10 l with
   | some j => rw [hp] at h; cases h
   | none =>
    intro x hx
    rcases List.mem_cons.1 hx with rfl | hx
    ·exact hz
    ·exact ih hp x hx
end Go.Proofs.YtngmgpmkjdacaaaGreatDoor
namespace Go.Proofs.YtngmgpmkjdacaaaGreatDoor
set_option maxRecDepth 100000
open Go.RowKit

/-- What is kept of what is open. -/
def opn (m : Nat) (cur : List Int) : List Int := if m < cur.length then [] else cur

def frCells (m at_ fr : Nat) (O : Option Addr) (n co : Nat) (cl : Bool) : Array Value := #[.int .i64 m, .int .i64 at_, .int .i64 fr, .slice O n co, .bool cl]

/-- Block g is a Framer that has had so many bytes; from a place on they are open. -/
structure IsFr (w : World) (g m at_ fr : Nat) (cur : List Int) (cl : Bool) (O : Option Addr) (co : Nat) : Prop where
 row : w.heap[g]? = some (.cells (frCells m at_ fr O (opn m cur).length co cl) 122 (0, 0))
 sl : Sl w O (opn m cur).length (opn m cur)
 ne : ∀ ad, O = some ad → ad.block ≠ g
 nil : (O = none ∧ co = 0) ∨ (∃ b o, O = some ⟨b, o, none⟩)
 le : (opn m cur).length ≤ co
 big : m ≤ 8192 ∧ fr + cur.length ≤ 100000 ∧ at_ ≤ 100001

section
variable {w w' : World} {g m at_ fr : Nat} {cur : List Int} {cl : Bool} {O : Option Addr} {co : Nat}
theorem IsFr.lt (h : IsFr w g m at_ fr cur cl O co) : g < w.heap.size := (Array.getElem?_eq_some_iff.1 h.row).1
theorem IsFr.cells (h : IsFr w g m at_ fr cur cl O co) :
  w.cell? ⟨g, 0, none⟩ = some (.int .i64 m) ∧ w.cell? ⟨g, 1, none⟩ = some (.int .i64 at_) ∧ w.cell? ⟨g, 2, none⟩ = some (.int .i64 fr) ∧ w.cell? ⟨g, 3, none⟩ = some (.slice O (opn m cur).length co) ∧ w.cell? ⟨g, 4, none⟩ = some (.bool cl) := by
 refine ⟨?_, ?_, ?_, ?_, ?_⟩
 all_goals rw [cell_of_row _ g _ _ 122 (0, 0) h.row]; rfl
theorem IsFr.free (h : IsFr w g m at_ fr cur cl O co) (j : Nat) : w.frozen? ⟨g, j, none⟩ = false := frozen_of_row w g j _ 122 h.row
theorem IsFr.below (h : IsFr w g m at_ fr cur cl O co) (hb : Below w.heap.size w w') : IsFr w' g m at_ fr cur cl O co :=
 { h with row := (hb.block g h.lt).trans h.row, sl := h.sl.below hb }
theorem IsFr.kept {row : Option Nat} (h : IsFr w g m at_ fr cur cl O co) (hg : w.grownBy w' row) (h1 : some g ≠ row) (h2 : ∀ ad, O = some ad → row ≠ some ad.block) : IsFr w' g m at_ fr cur cl O co :=
 { h with row := (hg.block g h.lt h1).trans h.row, sl := h.sl.grown hg h2 }

theorem grown_below {row : Option Nat} (hb : Below w.heap.size w w') : w.grownBy w' row := ⟨hb.os, hb.tape, hb.output, hb.size, fun k hk _ => hb.block k hk⟩
theorem grown_set (w : World) (g j : Nat) (v : Value) : w.grownBy (w.setCell ⟨g, j, none⟩ v) (some g) :=
 ⟨rfl, rfl, rfl, by simp [World.setCell], fun k _ hn => heap_setCell_other _ _ _ _ (fun e => hn (by rw [e]))⟩
theorem grown_drew {row : Option Nat} (h : w.grownBy w' row) : w.grownBy w'.drew row := ⟨h.os, h.tape, h.output, h.size, h.block⟩

theorem IsFr.put_at (h : IsFr w g m at_ fr cur cl O co) (x : Nat) (hx : x ≤ 100001) : IsFr (w.setCell ⟨g, 1, none⟩ (.int .i64 (x : Int))) g m x fr cur cl O co :=
 { h with
  row := by rw [heap_setCell_same w g 1 _ 122 _ h.row]; rfl
  sl := h.sl.grown (grown_set w g 1 _) (fun ad e => fun e2 => h.ne ad e (Option.some.inj e2).symm)
  big := ⟨h.big.1, h.big.2.1, hx⟩ }
theorem IsFr.put_closed (h : IsFr w g m at_ fr cur cl O co) (x : Bool) : IsFr (w.setCell ⟨g, 4, none⟩ (.bool x)) g m at_ fr cur x O co :=
 { h with
  row := by rw [heap_setCell_same w g 4 _ 122 _ h.row]; rfl
  sl := h.sl.grown (grown_set w g 4 _) (fun ad e => fun e2 => h.ne ad e (Option.some.inj e2).symm) }
/-- What is open begins anew. -/
theorem IsFr.put_from (h : IsFr w g m at_ fr cur cl O co) (x : Nat) (hx : x ≤ 100000) : IsFr ((w.setCell ⟨g, 2, none⟩ (.int .i64 (x : Int))).setCell ⟨g, 3, none⟩ (.slice none 0 0)) g m at_ x [] cl none 0 := by
 have e0 : opn m [] = [] := by unfold opn; split <;> rfl
 have h1 : (w.setCell ⟨g, 2, none⟩ (.int .i64 (x : Int))).heap[g]? = some (.cells #[.int .i64 m, .int .i64 at_, .int .i64 x, .slice O (opn m cur).length co, .bool cl] 122 (0, 0)) := by rw [heap_setCell_same w g 2 _ 122 _ h.row]; rfl
 exact
  {row := by rw [heap_setCell_same _ g 3 _ 122 _ h1, e0]; rfl
   sl := by rw [e0]; exact sl_nil _ _
   ne := fun ad e => by cases e
   nil := .inl ⟨rfl, rfl⟩
   le := by rw [e0]; exact Nat.le_refl _
   big := ⟨h.big.1, by simpa using hx, h.big.2.2⟩ }
end

theorem new_any (k : Nat) (w : World) (h1 : 1 ≤ k) (h2 : k ≤ 8192) :
  Calls Tryz.prog 29 #[.int .i64 k] w fun e w' => e = .returned (.tuple #[.pointer (some ⟨w.heap.size, 0, none⟩), .int .i64 0]) ∧ IsFr w' w.heap.size k 0 0 [] false none 0 ∧ Below w.heap.size w w' := by
 have e0 : opn k [] = [] := by unfold opn; split <;> rfl
 have hk : ¬ (k : Int) < 1 := by omega
 have hk2 : ¬ (8192 : Int) < (k : Int) := by omega
 go_enter Tryz.func29, Tryz.ntmps29
 go_wp2
 go_ret2
 exact ⟨rfl, { row := by rw [e0]; exact heap_alloc_new w _, sl := by rw [e0]; exact sl_nil _ _, ne := (fun ad e => by cases e), nil := .inl ⟨rfl, rfl⟩, le := by rw [e0]; exact Nat.le_refl _, big := ⟨h2, by decide, by decide⟩ }, (Below.refl _ _).alloc (Nat.le_refl _) _⟩

section
variable (w : World) (g m at_ fr : Nat) (cur : List Int) (cl : Bool) (O : Option Addr) (co : Nat)
theorem check_any (h : IsFr w g m at_ fr cur cl O co) : Calls Tryz.prog 84 #[.pointer (some ⟨g, 0, none⟩)] w fun e w' => e = .returned (.int .i64 (if cl then 28 else 0)) ∧ w = w' := by
 obtain ⟨c0, c1, c2, c3, c4⟩ := h.cells
 clear h
 cases cl
 all_goals (
  go_enter Tryz.func84, Tryz.ntmps84
  go_wp2
  go_ret
  exact ⟨rfl, rfl⟩)

theorem long_any (h : IsFr w g m at_ fr cur cl O co) (e : Nat) (h1 : fr ≤ e) (h2 : e ≤ 100001) : Calls Tryz.prog 86 #[.pointer (some ⟨g, 0, none⟩), .int .i64 e] w fun r w' => r = .returned (.bool (decide (m < e - fr))) ∧ ∃ n, w' = w.drewN n := by
 obtain ⟨c0, c1, c2, c3, c4⟩ := h.cells
 have hm := h.big
 have hw : IntKind.i64.wrap ((e : Int) - (fr : Int)) = (e : Int) - (fr : Int) := by rw [IntKind.wrap_i64]; omega
 have hd : decide ((m : Int) < (e : Int) - (fr : Int)) = decide (m < e - fr) := by
  rw [Bool.eq_iff_iff]; simp only [decide_eq_true_eq]; omega
 have HD := Lib.hid hd
 clear h hd
 go_enter Tryz.func86, Tryz.ntmps86
 go_wp2_with fail
 go_quiet (fail)
 go_wp2_with fail
 go_ret
 exact ⟨by rw [← HD.out]; rfl, _, rfl⟩

/-- A line's value. -/
def lvv (x : LV) : Array Value := #[.int .i64 x.a, .int .i64 x.b, .string (strOfNums x.t), .bool x.long]
theorem info119 : (Tryz.prog.info? 119).map (·.size) = some 4 := by kernel_rfl

/-- Behind the first statement of 'line': the line's box, and the result's. -/
structure LineAt (w : World) (g m at_ fr : Nat) (cur : List Int) (cl : Bool) (O : Option Addr) (co : Nat) (x y : Int) (b : Bool) (W : World) : Prop where
 fr : IsFr W g m at_ fr cur cl O co
 res : W.heap[w.heap.size]? = some (.cells #[.int .i64 0, .int .i64 0, .string ⟨#[]⟩, .bool false] 119 (0, 0))
 box : W.heap[w.heap.size + 1]? = some (.cells #[.int .i64 x, .int .i64 y, .string ⟨#[]⟩, .bool b] 119 (0, 0))
 grown : w.grownBy W (some g)

def lw1 (w : World) (x y : Int) (b : Bool) (n : Nat) : World := ((w.alloc (.cells #[.int .i64 0, .int .i64 0, .string ⟨#[]⟩, .bool false] 119)).drewN n).alloc (.cells #[.int .i64 x, .int .i64 y, .string ⟨#[]⟩, .bool b] 119)
def lw2 (w : World) (x y : Int) (b : Bool) (n : Nat) : World :=
 ((((((w.alloc (.cells #[.int .i64 0, .int .i64 0, .string ⟨#[]⟩, .bool false] 119)).alloc (.cells #[.int .i64 0, .int .i64 0, .string ⟨#[]⟩, .bool false] 119)).drewN n).setCell ⟨w.heap.size + 1, 0, none⟩ (.int .i64 x)).setCell ⟨w.heap.size + 1, 1, none⟩ (.int .i64 y)).setCell ⟨w.heap.size + 1, 2, none⟩ (.string ⟨#[]⟩)).setCell ⟨w.heap.size + 1, 3, none⟩ (.bool b)

theorem lineAt1 (h : IsFr w g m at_ fr cur cl O co) (x y : Int) (b : Bool) (n : Nat) : LineAt w g m at_ fr cur cl O co x y b (lw1 w x y b n) := by
 have b0 := (Below.refl w.heap.size w).alloc (Nat.le_refl _) (.cells #[.int .i64 0, .int .i64 0, .string ⟨#[]⟩, .bool false] 119)
 have b1 := (below_drewN' b0 n).alloc (by simp) (.cells #[.int .i64 x, .int .i64 y, .string ⟨#[]⟩, .bool b] 119)
 have hn := heap_alloc_new ((w.alloc (.cells #[.int .i64 0, .int .i64 0, .string ⟨#[]⟩, .bool false] 119)).drewN n) (.cells #[.int .i64 x, .int .i64 y, .string ⟨#[]⟩, .bool b] 119)
 rw [show ((w.alloc (.cells #[.int .i64 0, .int .i64 0, .string ⟨#[]⟩, .bool false] 119)).drewN n).heap.size = w.heap.size + 1 from by simp] at hn
 exact ⟨h.below b1, (Below.heap_alloc _ _ _ (by simp)).trans (heap_alloc_new w _), hn, grown_below b1⟩

theorem lineAt2 (h : IsFr w g m at_ fr cur cl O co) (x y : Int) (b : Bool) (n : Nat) : LineAt w g m at_ fr cur cl O co x y b (lw2 w x y b n) := by
 have b0 := ((Below.refl w.heap.size w).alloc (Nat.le_refl _) (.cells #[.int .i64 0, .int .i64 0, .string ⟨#[]⟩, .bool false] 119)).alloc (by simp) (.cells #[.int .i64 0, .int .i64 0, .string ⟨#[]⟩, .bool false] 119)
 have b1 := ((((below_drewN' b0 n).setCell (p := ⟨w.heap.size + 1, 0, none⟩) (by simp) (.int .i64 x)).setCell (p := ⟨w.heap.size + 1, 1, none⟩) (by simp) (.int .i64 y)).setCell (p := ⟨w.heap.size + 1, 2, none⟩) (by simp) (.string ⟨#[]⟩)).setCell (p := ⟨w.heap.size + 1, 3, none⟩) (by simp) (.bool b)
 have hn := heap_alloc_new (w.alloc (.cells #[.int .i64 0, .int .i64 0, .string ⟨#[]⟩, .bool false] 119)) (.cells #[.int .i64 0, .int .i64 0, .string ⟨#[]⟩, .bool false] 119)
 rw [World.size_alloc] at hn
 refine ⟨h.below b1, ?_, ?_, grown_below b1⟩
 ·unfold lw2
  rw [heap_setCell_other _ _ _ _ (by show w.heap.size ≠ w.heap.size + 1; omega), heap_setCell_other _ _ _ _ (by show w.heap.size ≠ w.heap.size + 1; omega), heap_setCell_other _ _ _ _ (by show w.heap.size ≠ w.heap.size + 1; omega), heap_setCell_other _ _ _ _ (by show w.heap.size ≠ w.heap.size + 1; omega)]
  exact (Below.heap_alloc _ _ _ (by simp)).trans (heap_alloc_new w _)
 ·have h0 : (((w.alloc (.cells #[.int .i64 0, .int .i64 0, .string ⟨#[]⟩, .bool false] 119)).alloc (.cells #[.int .i64 0, .int .i64 0, .string ⟨#[]⟩, .bool false] 119)).drewN n).heap[w.heap.size + 1]? = some (.cells #[.int .i64 0, .int .i64 0, .string ⟨#[]⟩, .bool false] 119 (0, 0)) := hn
  have h1 := heap_setCell_same _ (w.heap.size + 1) 0 _ 119 (.int .i64 x) h0
  have h2 := heap_setCell_same _ (w.heap.size + 1) 1 _ 119 (.int .i64 y) h1
  have h3 := heap_setCell_same _ (w.heap.size + 1) 2 _ 119 (.string ⟨#[]⟩) h2
  exact heap_setCell_same _ (w.heap.size + 1) 3 _ 119 (.bool b) h3

/-- What the end of 'line' leaves. -/
def lwE (W : World) (g r : Nat) (x y : Int) (t : ByteArray) (b : Bool) : World :=
 (((((W.setCell ⟨g, 2, none⟩ (.int .i64 y)).setCell ⟨g, 3, none⟩ (.slice none 0 0)).setCell ⟨r, 0, none⟩ (.int .i64 x)).setCell ⟨r, 1, none⟩ (.int .i64 y)).setCell ⟨r, 2, none⟩ (.string t)).setCell ⟨r, 3, none⟩ (.bool b)

theorem grown_step {w w' : World} {q : Nat} (h : w.grownBy w' (some q)) (p : Addr) (hp : p.block = q ∨ w.heap.size ≤ p.block) (v : Value) : w.grownBy (w'.setCell p v) (some q) :=
 ⟨h.os, h.tape, h.output, by simpa [World.setCell] using h.size, fun k hk hn => (heap_setCell_other _ _ _ _ (by
  rcases hp with h1 | h1
  ·exact fun e => hn (by rw [e, h1])
  ·omega)).trans (h.block k hk hn)⟩

theorem line_end (W : World) (hf : IsFr W g m at_ fr cur cl O co) (hg : w.grownBy W (some g)) (hlt : g < w.heap.size)
  (hres : W.heap[w.heap.size]? = some (.cells #[.int .i64 0, .int .i64 0, .string ⟨#[]⟩, .bool false] 119 (0, 0))) (x : Int) (y : Nat) (hy : y ≤ 100000) (Y : Int) (hY : (y : Int) = Y) (t : ByteArray) (b : Bool) :
  IsFr (lwE W g w.heap.size x Y t b) g m at_ y [] cl none 0 ∧ (lwE W g w.heap.size x Y t b).heap[w.heap.size]? = some (.cells #[.int .i64 x, .int .i64 Y, .string t, .bool b] 119 (0, 0)) ∧ w.grownBy (lwE W g w.heap.size x Y t b) (some g) := by
 subst hY
 have f1 := hf.put_from y hy
 have hs : ((W.setCell ⟨g, 2, none⟩ (.int .i64 (y : Int))).setCell ⟨g, 3, none⟩ (.slice none 0 0)).heap[w.heap.size]? = some (.cells #[.int .i64 0, .int .i64 0, .string ⟨#[]⟩, .bool false] 119 (0, 0)) := by
  rw [heap_setCell_other _ _ _ _ (by show w.heap.size ≠ g; omega), heap_setCell_other _ _ _ _ (by show w.heap.size ≠ g; omega)]; exact hres
 have h0 := heap_setCell_same _ w.heap.size 0 _ 119 (.int .i64 x) hs
 have h1 := heap_setCell_same _ w.heap.size 1 _ 119 (.int .i64 (y : Int)) h0
 have h2 := heap_setCell_same _ w.heap.size 2 _ 119 (.string t) h1
 have h3 := heap_setCell_same _ w.heap.size 3 _ 119 (.bool b) h2
 have g0 := grown_step (grown_step hg ⟨g, 2, none⟩ (.inl rfl) (.int .i64 (y : Int))) ⟨g, 3, none⟩ (.inl rfl) (.slice none 0 0)
 have g4 := grown_step (grown_step (grown_step (grown_step g0 ⟨w.heap.size, 0, none⟩ (.inr (Nat.le_refl _)) (.int .i64 x)) ⟨w.heap.size, 1, none⟩ (.inr (Nat.le_refl _)) (.int .i64 (y : Int))) ⟨w.heap.size, 2, none⟩ (.inr (Nat.le_refl _)) (.string t)) ⟨w.heap.size, 3, none⟩ (.inr (Nat.le_refl _)) (.bool b)
 have hne : w.heap.size ≠ g := by omega
 have k0 := grown_step (grown_step (grown_step (grown_step (grown_below (row := some w.heap.size) (Below.refl _ ((W.setCell ⟨g, 2, none⟩ (.int .i64 (y : Int))).setCell ⟨g, 3, none⟩ (.slice none 0 0)))) ⟨w.heap.size, 0, none⟩ (.inl rfl) (.int .i64 x)) ⟨w.heap.size, 1, none⟩ (.inl rfl) (.int .i64 (y : Int))) ⟨w.heap.size, 2, none⟩ (.inl rfl) (.string t)) ⟨w.heap.size, 3, none⟩ (.inl rfl) (.bool b)
 exact ⟨f1.kept k0 (fun e => hne (Option.some.inj e).symm) (fun ad e => by cases e), h3, g4⟩

set_option maxHeartbeats 1000000 in
/-- What is open, as a line; and all begins anew. -/
theorem line_any (h : IsFr w g m at_ fr cur cl O co) (k : Nat) (hk : k ≤ 1) (hm : fr + cur.length + k ≤ 100000) :
  Calls Tryz.prog 87 #[.pointer (some ⟨g, 0, none⟩), .int .i64 ((fr + cur.length : Nat) : Int), .int .i64 ((fr + cur.length + k : Nat) : Int)] w fun r w' => r = .returned (.agg (lvv (mkLine m fr cur k))) ∧ IsFr w' g m at_ (fr + cur.length + k) [] cl none 0 ∧ w.grownBy w' (some g) := by
 have b0 := (Below.refl w.heap.size w).alloc (Nat.le_refl _) (.cells #[.int .i64 0, .int .i64 0, .string ⟨#[]⟩, .bool false] 119)
 have H0 := Lib.hid (h.below b0)
 have HB0 := Lib.hid b0
 have HLT := Lib.hid h.lt
 have HF := Lib.hid h
 clear h b0
 obtain ⟨c0, c1, c2, c3, c4⟩ := H0.out.cells
 go_enter Tryz.func87, Tryz.ntmps87
 go_wp2_with fail
 have hz0 : w.heap.size < (w.alloc (.cells #[.int .i64 0, .int .i64 0, .string ⟨#[]⟩, .bool false] 119)).drew.heap.size := by simp
 obtain ⟨W, hW⟩ : ∃ W, W = (w.alloc (.cells #[.int .i64 0, .int .i64 0, .string ⟨#[]⟩, .bool false] 119)).drew := ⟨_, rfl⟩
 have HA := Lib.hid (H0.out.below (Below.refl _ _).drew)
 have HB := Lib.hid (HA.out.below ((Below.refl _ _).alloc (Nat.le_refl _) (.cells #[.int .i64 0, .int .i64 0, .string ⟨#[]⟩, .bool false] 119)))
 have hd : decide (m < fr + cur.length - fr) = decide (m < cur.length) := by rw [Nat.add_sub_cancel_left]
 have HD := Lib.hid hd
 clear hd hW hz0
 have hgl := HLT.out
 have hga : g < w.heap.size + 1 := by omega
 have hgb : g ≠ w.heap.size := by omega
 have hgc : g ≠ w.heap.size + 1 := by omega
 have hgd : w.heap.size + 1 ≠ g := by omega
 have hge : w.heap.size ≠ g := by omega
 go_region_held3 (fun W => W.cell? ⟨g, 2, none⟩ = some (.int .i64 fr)) (go_keep) (first | (go_at_call 86; refine (long_any _ g m at_ fr cur cl O co HA.out (fr + cur.length) (by omega) (by omega)).mono ?_; rintro e w1 ⟨rfl, n1, rfl⟩; rw [HD.out]) | (go_at_call 86; refine (long_any _ g m at_ fr cur cl O co HB.out (fr + cur.length) (by omega) (by omega)).mono ?_; rintro e w1 ⟨rfl, n1, rfl⟩; rw [HD.out]))
 ·change Exit.then _ _ _ _ (lw1 w fr ((fr : Int) + (cur.length : Int) + (k : Int)) (decide (m < cur.length)) (1 + n1))
  have F := lineAt1 w g m at_ fr cur cl O co HF.out fr ((fr : Int) + (cur.length : Int) + (k : Int)) (decide (m < cur.length)) (1 + n1)
  generalize lw1 w fr ((fr : Int) + (cur.length : Int) + (k : Int)) (decide (m < cur.length)) (1 + n1) = W at F ⊢
  have HFF := Lib.hid F
  have HG := Lib.hid F.grown
  obtain ⟨z0, z1, z2, z3, z4⟩ := F.fr.cells
  have fz2 := F.fr.free 2
  have fz3 := F.fr.free 3
  have l3 : W.cell? ⟨w.heap.size + 1, 3, none⟩ = some (.bool (decide (m < cur.length))) := by rw [cell_of_row _ _ _ _ 119 (0, 0) F.box]; rfl
  have hrow := F.res
  by_cases hl : m < cur.length
  ·have hmk : mkLine m fr cur k = ⟨fr, fr + cur.length + k, [], true⟩ := by unfold mkLine; rw [if_pos hl]
   rw [show decide (m < cur.length) = true from decide_eq_true hl] at l3 HFF
   have hb := F.box
   rw [show decide (m < cur.length) = true from decide_eq_true hl] at hb
   have b0 : W.cell? ⟨w.heap.size + 1, 0, none⟩ = some (.int .i64 fr) := by rw [cell_of_row _ _ _ _ 119 (0, 0) hb]; rfl
   have b1 : W.cell? ⟨w.heap.size + 1, 1, none⟩ = some (.int .i64 ((fr : Int) + (cur.length : Int) + (k : Int))) := by rw [cell_of_row _ _ _ _ 119 (0, 0) hb]; rfl
   have b2 : W.cell? ⟨w.heap.size + 1, 2, none⟩ = some (.string ⟨#[]⟩) := by rw [cell_of_row _ _ _ _ 119 (0, 0) hb]; rfl
   have HMK := Lib.hid hmk
   have HROW := Lib.hid hrow
   have HBB := Lib.hid hb
   have r0 : W.cell? ⟨w.heap.size, 0, none⟩ = some (.int .i64 0) := by rw [cell_of_row _ _ _ _ 119 (0, 0) hrow]; rfl
   have r1 : W.cell? ⟨w.heap.size, 1, none⟩ = some (.int .i64 0) := by rw [cell_of_row _ _ _ _ 119 (0, 0) hrow]; rfl
   have r2 : W.cell? ⟨w.heap.size, 2, none⟩ = some (.string ⟨#[]⟩) := by rw [cell_of_row _ _ _ _ 119 (0, 0) hrow]; rfl
   have r3 : W.cell? ⟨w.heap.size, 3, none⟩ = some (.bool false) := by rw [cell_of_row _ _ _ _ 119 (0, 0) hrow]; rfl
   have q0 := frozen_of_row W w.heap.size 0 _ 119 hrow
   have q1 := frozen_of_row W w.heap.size 1 _ 119 hrow
   have q2 := frozen_of_row W w.heap.size 2 _ 119 hrow
   have q3 := frozen_of_row W w.heap.size 3 _ 119 hrow
   clear hb hmk hrow F
   go_wp2_with fail
   obtain ⟨e1, e2, e3⟩ := line_end w g m at_ fr cur cl O co W HFF.out.fr HG.out HLT.out HROW.out fr (fr + cur.length + k) hm ((fr : Int) + (cur.length : Int) + (k : Int)) (by push_cast; rfl) ⟨#[]⟩ true
   exact bodyPost_ret (results_cell_row rfl _ _ w.heap.size 119 #[.int .i64 fr, .int .i64 ((fr : Int) + (cur.length : Int) + (k : Int)), .string ⟨#[]⟩, .bool true] (0, 0) _ rfl e2 Tryz.underlying119 rfl info119) rfl ⟨by rw [HMK.out]; rfl, e1, e3⟩
  ·have hmk : mkLine m fr cur k = ⟨fr, fr + cur.length + k, cur, false⟩ := by unfold mkLine; rw [if_neg hl]
   rw [show decide (m < cur.length) = false from decide_eq_false hl] at l3 HFF
   have hb := F.box
   rw [show decide (m < cur.length) = false from decide_eq_false hl] at hb
   have hop : opn m cur = cur := by unfold opn; rw [if_neg hl]
   have hconv := F.fr.sl.convert co
   rw [hop] at hconv z3
   have hb2 := heap_setCell_same _ (w.heap.size + 1) 2 _ 119 (.string (strOfNums cur)) hb
   have qb2 := frozen_of_row W (w.heap.size + 1) 2 _ 119 hb
   have b0 : W.cell? ⟨w.heap.size + 1, 0, none⟩ = some (.int .i64 fr) := by rw [cell_of_row _ _ _ _ 119 (0, 0) hb]; rfl
   have b1 : W.cell? ⟨w.heap.size + 1, 1, none⟩ = some (.int .i64 ((fr : Int) + (cur.length : Int) + (k : Int))) := by rw [cell_of_row _ _ _ _ 119 (0, 0) hb]; rfl
   have b2 : W.cell? ⟨w.heap.size + 1, 2, none⟩ = some (.string ⟨#[]⟩) := by rw [cell_of_row _ _ _ _ 119 (0, 0) hb]; rfl
   have HMK := Lib.hid hmk
   have HROW := Lib.hid hrow
   have r0 : W.cell? ⟨w.heap.size, 0, none⟩ = some (.int .i64 0) := by rw [cell_of_row _ _ _ _ 119 (0, 0) hrow]; rfl
   have r1 : W.cell? ⟨w.heap.size, 1, none⟩ = some (.int .i64 0) := by rw [cell_of_row _ _ _ _ 119 (0, 0) hrow]; rfl
   have r2 : W.cell? ⟨w.heap.size, 2, none⟩ = some (.string ⟨#[]⟩) := by rw [cell_of_row _ _ _ _ 119 (0, 0) hrow]; rfl
   have r3 : W.cell? ⟨w.heap.size, 3, none⟩ = some (.bool false) := by rw [cell_of_row _ _ _ _ 119 (0, 0) hrow]; rfl
   have q0 := frozen_of_row W w.heap.size 0 _ 119 hrow
   have q1 := frozen_of_row W w.heap.size 1 _ 119 hrow
   have q2 := frozen_of_row W w.heap.size 2 _ 119 hrow
   have q3 := frozen_of_row W w.heap.size 3 _ 119 hrow
   have HW2 := Lib.hid (show IsFr (W.setCell ⟨w.heap.size + 1, 2, none⟩ (.string (strOfNums cur))) g m at_ fr cur cl O co ∧ w.grownBy (W.setCell ⟨w.heap.size + 1, 2, none⟩ (.string (strOfNums cur))) (some g) ∧ (W.setCell ⟨w.heap.size + 1, 2, none⟩ (.string (strOfNums cur))).heap[w.heap.size]? = some (.cells #[.int .i64 0, .int .i64 0, .string ⟨#[]⟩, .bool false] 119 (0, 0)) from
    ⟨{ HFF.out.fr with row := (heap_setCell_other _ _ _ _ (by show g ≠ w.heap.size + 1; omega)).trans HFF.out.fr.row, sl := HF.out.sl.grown (grown_step HG.out ⟨w.heap.size + 1, 2, none⟩ (.inr (by show w.heap.size ≤ w.heap.size + 1; omega)) _) (fun ad e e2 => HF.out.ne ad e (Option.some.inj e2).symm) }, grown_step HG.out ⟨w.heap.size + 1, 2, none⟩ (.inr (by show w.heap.size ≤ w.heap.size + 1; omega)) _, (heap_setCell_other _ _ _ _ (by show w.heap.size ≠ w.heap.size + 1; omega)).trans hrow⟩)
   clear hb hmk hrow F hop hb2
   go_wp2_with fail
   obtain ⟨e1, e2, e3⟩ := line_end w g m at_ fr cur cl O co _ HW2.out.1 HW2.out.2.1 HLT.out HW2.out.2.2 fr (fr + cur.length + k) hm ((fr : Int) + (cur.length : Int) + (k : Int)) (by push_cast; rfl) (strOfNums cur) false
   exact bodyPost_ret (results_cell_row rfl _ _ w.heap.size 119 #[.int .i64 fr, .int .i64 ((fr : Int) + (cur.length : Int) + (k : Int)), .string (strOfNums cur), .bool false] (0, 0) _ rfl e2 Tryz.underlying119 rfl info119) rfl ⟨by rw [HMK.out]; rfl, e1, e3⟩
 ·change Exit.then _ _ _ _ (lw2 w fr ((fr : Int) + (cur.length : Int) + (k : Int)) (decide (m < cur.length)) (1 + n1))
  have F := lineAt2 w g m at_ fr cur cl O co HF.out fr ((fr : Int) + (cur.length : Int) + (k : Int)) (decide (m < cur.length)) (1 + n1)
  generalize lw2 w fr ((fr : Int) + (cur.length : Int) + (k : Int)) (decide (m < cur.length)) (1 + n1) = W at F ⊢
  have HFF := Lib.hid F
  have HG := Lib.hid F.grown
  obtain ⟨z0, z1, z2, z3, z4⟩ := F.fr.cells
  have fz2 := F.fr.free 2
  have fz3 := F.fr.free 3
  have l3 : W.cell? ⟨w.heap.size + 1, 3, none⟩ = some (.bool (decide (m < cur.length))) := by rw [cell_of_row _ _ _ _ 119 (0, 0) F.box]; rfl
  have hrow := F.res
  by_cases hl : m < cur.length
  ·have hmk : mkLine m fr cur k = ⟨fr, fr + cur.length + k, [], true⟩ := by unfold mkLine; rw [if_pos hl]
   rw [show decide (m < cur.length) = true from decide_eq_true hl] at l3 HFF
   have hb := F.box
   rw [show decide (m < cur.length) = true from decide_eq_true hl] at hb
   have b0 : W.cell? ⟨w.heap.size + 1, 0, none⟩ = some (.int .i64 fr) := by rw [cell_of_row _ _ _ _ 119 (0, 0) hb]; rfl
   have b1 : W.cell? ⟨w.heap.size + 1, 1, none⟩ = some (.int .i64 ((fr : Int) + (cur.length : Int) + (k : Int))) := by rw [cell_of_row _ _ _ _ 119 (0, 0) hb]; rfl
   have b2 : W.cell? ⟨w.heap.size + 1, 2, none⟩ = some (.string ⟨#[]⟩) := by rw [cell_of_row _ _ _ _ 119 (0, 0) hb]; rfl
   have HMK := Lib.hid hmk
   have HROW := Lib.hid hrow
   have HBB := Lib.hid hb
   have r0 : W.cell? ⟨w.heap.size, 0, none⟩ = some (.int .i64 0) := by rw [cell_of_row _ _ _ _ 119 (0, 0) hrow]; rfl
   have r1 : W.cell? ⟨w.heap.size, 1, none⟩ = some (.int .i64 0) := by rw [cell_of_row _ _ _ _ 119 (0, 0) hrow]; rfl
   have r2 : W.cell? ⟨w.heap.size, 2, none⟩ = some (.string ⟨#[]⟩) := by rw [cell_of_row _ _ _ _ 119 (0, 0) hrow]; rfl
   have r3 : W.cell? ⟨w.heap.size, 3, none⟩ = some (.bool false) := by rw [cell_of_row _ _ _ _ 119 (0, 0) hrow]; rfl
   have q0 := frozen_of_row W w.heap.size 0 _ 119 hrow
   have q1 := frozen_of_row W w.heap.size 1 _ 119 hrow
   have q2 := frozen_of_row W w.heap.size 2 _ 119 hrow
   have q3 := frozen_of_row W w.heap.size 3 _ 119 hrow
   clear hb hmk hrow F
   go_wp2_with fail
   obtain ⟨e1, e2, e3⟩ := line_end w g m at_ fr cur cl O co W HFF.out.fr HG.out HLT.out HROW.out fr (fr + cur.length + k) hm ((fr : Int) + (cur.length : Int) + (k : Int)) (by push_cast; rfl) ⟨#[]⟩ true
   exact bodyPost_ret (results_cell_row rfl _ _ w.heap.size 119 #[.int .i64 fr, .int .i64 ((fr : Int) + (cur.length : Int) + (k : Int)), .string ⟨#[]⟩, .bool true] (0, 0) _ rfl e2 Tryz.underlying119 rfl info119) rfl ⟨by rw [HMK.out]; rfl, e1, e3⟩
  ·have hmk : mkLine m fr cur k = ⟨fr, fr + cur.length + k, cur, false⟩ := by unfold mkLine; rw [if_neg hl]
   rw [show decide (m < cur.length) = false from decide_eq_false hl] at l3 HFF
   have hb := F.box
   rw [show decide (m < cur.length) = false from decide_eq_false hl] at hb
   have hop : opn m cur = cur := by unfold opn; rw [if_neg hl]
   have hconv := F.fr.sl.convert co
   rw [hop] at hconv z3
   have hb2 := heap_setCell_same _ (w.heap.size + 1) 2 _ 119 (.string (strOfNums cur)) hb
   have qb2 := frozen_of_row W (w.heap.size + 1) 2 _ 119 hb
   have b0 : W.cell? ⟨w.heap.size + 1, 0, none⟩ = some (.int .i64 fr) := by rw [cell_of_row _ _ _ _ 119 (0, 0) hb]; rfl
   have b1 : W.cell? ⟨w.heap.size + 1, 1, none⟩ = some (.int .i64 ((fr : Int) + (cur.length : Int) + (k : Int))) := by rw [cell_of_row _ _ _ _ 119 (0, 0) hb]; rfl
   have b2 : W.cell? ⟨w.heap.size + 1, 2, none⟩ = some (.string ⟨#[]⟩) := by rw [cell_of_row _ _ _ _ 119 (0, 0) hb]; rfl
   have HMK := Lib.hid hmk
   have HROW := Lib.hid hrow
   have r0 : W.cell? ⟨w.heap.size, 0, none⟩ = some (.int .i64 0) := by rw [cell_of_row _ _ _ _ 119 (0, 0) hrow]; rfl
   have r1 : W.cell? ⟨w.heap.size, 1, none⟩ = some (.int .i64 0) := by rw [cell_of_row _ _ _ _ 119 (0, 0) hrow]; rfl
   have r2 : W.cell? ⟨w.heap.size, 2, none⟩ = some (.string ⟨#[]⟩) := by rw [cell_of_row _ _ _ _ 119 (0, 0) hrow]; rfl
   have r3 : W.cell? ⟨w.heap.size, 3, none⟩ = some (.bool false) := by rw [cell_of_row _ _ _ _ 119 (0, 0) hrow]; rfl
   have q0 := frozen_of_row W w.heap.size 0 _ 119 hrow
   have q1 := frozen_of_row W w.heap.size 1 _ 119 hrow
   have q2 := frozen_of_row W w.heap.size 2 _ 119 hrow
   have q3 := frozen_of_row W w.heap.size 3 _ 119 hrow
   have HW2 := Lib.hid (show IsFr (W.setCell ⟨w.heap.size + 1, 2, none⟩ (.string (strOfNums cur))) g m at_ fr cur cl O co ∧ w.grownBy (W.setCell ⟨w.heap.size + 1, 2, none⟩ (.string (strOfNums cur))) (some g) ∧ (W.setCell ⟨w.heap.size + 1, 2, none⟩ (.string (strOfNums cur))).heap[w.heap.size]? = some (.cells #[.int .i64 0, .int .i64 0, .string ⟨#[]⟩, .bool false] 119 (0, 0)) from
    ⟨{ HFF.out.fr with row := (heap_setCell_other _ _ _ _ (by show g ≠ w.heap.size + 1; omega)).trans HFF.out.fr.row, sl := HF.out.sl.grown (grown_step HG.out ⟨w.heap.size + 1, 2, none⟩ (.inr (by show w.heap.size ≤ w.heap.size + 1; omega)) _) (fun ad e e2 => HF.out.ne ad e (Option.some.inj e2).symm) }, grown_step HG.out ⟨w.heap.size + 1, 2, none⟩ (.inr (by show w.heap.size ≤ w.heap.size + 1; omega)) _, (heap_setCell_other _ _ _ _ (by show w.heap.size ≠ w.heap.size + 1; omega)).trans hrow⟩)
   clear hb hmk hrow F hop hb2
   go_wp2_with fail
   obtain ⟨e1, e2, e3⟩ := line_end w g m at_ fr cur cl O co _ HW2.out.1 HW2.out.2.1 HLT.out HW2.out.2.2 fr (fr + cur.length + k) hm ((fr : Int) + (cur.length : Int) + (k : Int)) (by push_cast; rfl) (strOfNums cur) false
   exact bodyPost_ret (results_cell_row rfl _ _ w.heap.size 119 #[.int .i64 fr, .int .i64 ((fr : Int) + (cur.length : Int) + (k : Int)), .string (strOfNums cur), .bool false] (0, 0) _ rfl e2 Tryz.underlying119 rfl info119) rfl ⟨by rw [HMK.out]; rfl, e1, e3⟩
end
end Go.Proofs.YtngmgpmkjdacaaaGreatDoor
